/- Functions without memory. (written by sx.py) -/
import Derived.Test.YtlpebecbipjoaaaGreatDoorNaIntG
namespace Go.Proofs.YtlpebecbipjoaaaGreatDoor
open Go.RowKit
set_option linter.unusedVariables false
set_option linter.unusedSimpArgs false
set_option linter.unnecessarySimpa false
set_option maxRecDepth 4000
/-! ### seismonet/seismonetmade.Light (function 4) -/
def F4_an : Nat → Keep × Keep := anL []
noncomputable def F4_g (N : Nat) : GamK := gam (P := Tryz.prog) []
noncomputable def F4_s (N : Nat) : FSpec where
  X := (List (List AV))
  Y := Bool
  ash := [[some 1]]
  bsh := []
  S := ⟨[[none]], [], [], [], []⟩
  bm := false
  pat := fun a b => match a, b with
    | [(AV.list 1 a0 none)], [] => some a0
    | _, _ => none
  args := fun x => [(AV.list 1 x none)]
  bs := fun x => []
  ret := fun y => ⟨(AV.v (.bool y)), [], none, [], [], []⟩
  t := fun x α k => (k (decide ((x.length : Int) ≤ 500)))
noncomputable abbrev F4_d (N : Nat) (x : (List (List AV))) : Option (Bool) := (F4_s N).d x
theorem F4_parF (N : Nat) : ParF (F4_s N).t := by
  intro x α β k k' r r' h h1
  revert h
  dsimp only [F4_s]
  (repeat' (first | (with_reducible refine par_ite ?_ ?_) | (with_reducible refine par_both ?_ ?_) | split)) <;> intro h <;> first | exact h1 _ h | (cases h; done)
theorem F4_text (N : Nat) (x : (F4_s N).X) : acall (tabOf Tryz.prog) (F4_g N) F4_an (lam N []) Tryz.f4 (F4_s N).S ((F4_s N).args x) ((F4_s N).bs x) = (F4_s N).t x Ret (fun y => some ((F4_s N).ret y)) := by kernel_rfl
theorem F4_pat (N : Nat) (a : List AV) (b : List (List AV)) (x : (F4_s N).X) (h : (F4_s N).pat a b = some x) : a = (F4_s N).args x ∧ b = (F4_s N).bs x := by
  dsimp only [F4_s] at h
  split at h
  · cases h; exact ⟨rfl, rfl⟩
  · cases h
noncomputable def F4_e (N : Nat) : Ent Tryz.prog := entOf (tabOf_ok Tryz.prog) (gam_ok _) mixed 4 Tryz.f4 Tryz.func4 rfl F4_an (lam N []) (by
    have e : actOf F4_an (Tryz.f4.body.getD .skip) 0 = [] := by kernel_rfl
    rw [e]
    intro p hp
    cases hp) (F4_s N) (fun _ => ⟨rfl, rfl⟩) (F4_text N) (F4_pat N) (F4_parF N)
/-! ### seismonet/seismonetmade.Roll (function 6) -/
def F6_an : Nat → Keep × Keep := anL []
noncomputable def F6_g (N : Nat) : GamK := gam (P := Tryz.prog) []
noncomputable def F6_s (N : Nat) : FSpec where
  X := (List (List AV))
  Y := (List (List AV)) × Int
  ash := [[some 1]]
  bsh := []
  S := ⟨[[none]], [], [some 1, none], [], []⟩
  bm := false
  pat := fun a b => match a, b with
    | [(AV.list 1 a0 none)], [] => some a0
    | _, _ => none
  args := fun x => [(AV.list 1 x none)]
  bs := fun x => []
  ret := fun y => ⟨(AV.ptr 0 0), [], some [(AV.list 1 y.1 none), (AV.v (.int .i64 y.2))], [], [], []⟩
  t := fun x α k => (k (x, 0))
noncomputable abbrev F6_d (N : Nat) (x : (List (List AV))) : Option ((List (List AV)) × Int) := (F6_s N).d x
theorem F6_parF (N : Nat) : ParF (F6_s N).t := by
  intro x α β k k' r r' h h1
  revert h
  dsimp only [F6_s]
  (repeat' (first | (with_reducible refine par_ite ?_ ?_) | (with_reducible refine par_both ?_ ?_) | split)) <;> intro h <;> first | exact h1 _ h | (cases h; done)
theorem F6_text (N : Nat) (x : (F6_s N).X) : acall (tabOf Tryz.prog) (F6_g N) F6_an (lam N []) Tryz.f6 (F6_s N).S ((F6_s N).args x) ((F6_s N).bs x) = (F6_s N).t x Ret (fun y => some ((F6_s N).ret y)) := by kernel_rfl
theorem F6_pat (N : Nat) (a : List AV) (b : List (List AV)) (x : (F6_s N).X) (h : (F6_s N).pat a b = some x) : a = (F6_s N).args x ∧ b = (F6_s N).bs x := by
  dsimp only [F6_s] at h
  split at h
  · cases h; exact ⟨rfl, rfl⟩
  · cases h
noncomputable def F6_e (N : Nat) : Ent Tryz.prog := entOf (tabOf_ok Tryz.prog) (gam_ok _) mixed 6 Tryz.f6 Tryz.func6 rfl F6_an (lam N []) (by
    have e : actOf F6_an (Tryz.f6.body.getD .skip) 0 = [] := by kernel_rfl
    rw [e]
    intro p hp
    cases hp) (F6_s N) (fun _ => ⟨rfl, rfl⟩) (F6_text N) (F6_pat N) (F6_parF N)
/-! ### (*seismonet/seismonetmade.Dice).Next (function 18) -/
def F18_an : Nat → Keep × Keep := anL []
noncomputable def F18_g (N : Nat) : GamK := gam (P := Tryz.prog) []
noncomputable def F18_s (N : Nat) : FSpec where
  X := Int × (List (List AV)) × Int
  Y := Int × (List (List AV)) × Int
  ash := [[none], [none]]
  bsh := [[some 1, none]]
  S := ⟨[[none]], [[some 1, none]], [], [], []⟩
  bm := false
  pat := fun a b => match a, b with
    | [(AV.ptr 0 0), (AV.v (.int .i64 a0))], [[(AV.list 1 a1 none), (AV.v (.int .i64 a2))]] => some (a0, a1, a2)
    | _, _ => none
  args := fun x => [(AV.ptr 0 0), (AV.v (.int .i64 x.1))]
  bs := fun x => [[(AV.list 1 x.2.1 none), (AV.v (.int .i64 x.2.2))]]
  ret := fun y => ⟨(AV.v (.int .i64 y.1)), [[(AV.list 1 y.2.1 none), (AV.v (.int .i64 y.2.2))]], none, [], [], []⟩
  t := fun x α k => (match (decide (x.2.2 ≥ (x.2.1.length : Int))) with | true => (k (0, x.2.1, x.2.2)) | false => (match (decide (x.1 < 1)) with | true => (k (0, x.2.1, x.2.2)) | false => (if 0 ≤ x.2.2 then (match x.2.1[x.2.2.toNat]? with | some c1 => (match c1[0]? with | some x2 => (match x2 with | .v (.int q4 n3) => (if q4 = .i64 then (if x.1 = 0 then none else (match (decide ((n3.tmod x.1) < 0)) with | true => (k ((i64 ((n3.tmod x.1) + x.1)), x.2.1, (i64 (x.2.2 + 1)))) | false => (k ((n3.tmod x.1), x.2.1, (i64 (x.2.2 + 1)))))) else none) | _ => none) | none => none) | none => none) else none)))
noncomputable abbrev F18_d (N : Nat) (x : Int × (List (List AV)) × Int) : Option (Int × (List (List AV)) × Int) := (F18_s N).d x
theorem F18_parF (N : Nat) : ParF (F18_s N).t := by
  intro x α β k k' r r' h h1
  revert h
  dsimp only [F18_s]
  (repeat' (first | (with_reducible refine par_ite ?_ ?_) | (with_reducible refine par_both ?_ ?_) | split)) <;> intro h <;> first | exact h1 _ h | (cases h; done)
theorem F18_text (N : Nat) (x : (F18_s N).X) : acall (tabOf Tryz.prog) (F18_g N) F18_an (lam N []) Tryz.f18 (F18_s N).S ((F18_s N).args x) ((F18_s N).bs x) = (F18_s N).t x Ret (fun y => some ((F18_s N).ret y)) := by kernel_rfl
theorem F18_pat (N : Nat) (a : List AV) (b : List (List AV)) (x : (F18_s N).X) (h : (F18_s N).pat a b = some x) : a = (F18_s N).args x ∧ b = (F18_s N).bs x := by
  dsimp only [F18_s] at h
  split at h
  · cases h; exact ⟨rfl, rfl⟩
  · cases h
noncomputable def F18_e (N : Nat) : Ent Tryz.prog := entOf (tabOf_ok Tryz.prog) (gam_ok _) mixed 18 Tryz.f18 Tryz.func18 rfl F18_an (lam N []) (by
    have e : actOf F18_an (Tryz.f18.body.getD .skip) 0 = [] := by kernel_rfl
    rw [e]
    intro p hp
    cases hp) (F18_s N) (fun _ => ⟨rfl, rfl⟩) (F18_text N) (F18_pat N) (F18_parF N)
/-! ### (*seismonet/seismonetmade.Dice).Pick (function 8) -/
def F8_an : Nat → Keep × Keep := anL []
noncomputable def F8_g (N : Nat) : GamK := gam (P := Tryz.prog) [F18_e N]
noncomputable def F8_s (N : Nat) : FSpec where
  X := (List (List AV)) × (List (List AV)) × Int
  Y := Int × (List (List AV)) × Int
  ash := [[none], [some 1]]
  bsh := [[some 1, none]]
  S := ⟨[[none]], [[some 1, none]], [], [], []⟩
  bm := false
  pat := fun a b => match a, b with
    | [(AV.ptr 0 0), (AV.list 1 a0 none)], [[(AV.list 1 a1 none), (AV.v (.int .i64 a2))]] => some (a0, a1, a2)
    | _, _ => none
  args := fun x => [(AV.ptr 0 0), (AV.list 1 x.1 none)]
  bs := fun x => [[(AV.list 1 x.2.1 none), (AV.v (.int .i64 x.2.2))]]
  ret := fun y => ⟨(AV.v (.int .i64 y.1)), [[(AV.list 1 y.2.1 none), (AV.v (.int .i64 y.2.2))]], none, [], [], []⟩
  t := fun x α k => (match F18_d N ((x.1.length : Int), x.2.1, x.2.2) with | some y1 => (if 0 ≤ y1.1 then (match x.1[y1.1.toNat]? with | some c2 => (match c2[0]? with | some x3 => (match x3 with | .v (.int q5 n4) => (if q5 = .i64 then (k (n4, y1.2.1, y1.2.2)) else none) | _ => none) | none => none) | none => none) else none) | none => none)
noncomputable abbrev F8_d (N : Nat) (x : (List (List AV)) × (List (List AV)) × Int) : Option (Int × (List (List AV)) × Int) := (F8_s N).d x
theorem F8_parF (N : Nat) : ParF (F8_s N).t := by
  intro x α β k k' r r' h h1
  revert h
  dsimp only [F8_s]
  (repeat' (first | (with_reducible refine par_ite ?_ ?_) | (with_reducible refine par_both ?_ ?_) | split)) <;> intro h <;> first | exact h1 _ h | (cases h; done)
theorem F8_text (N : Nat) (x : (F8_s N).X) : acall (tabOf Tryz.prog) (F8_g N) F8_an (lam N []) Tryz.f8 (F8_s N).S ((F8_s N).args x) ((F8_s N).bs x) = (F8_s N).t x Ret (fun y => some ((F8_s N).ret y)) := by kernel_rfl
theorem F8_pat (N : Nat) (a : List AV) (b : List (List AV)) (x : (F8_s N).X) (h : (F8_s N).pat a b = some x) : a = (F8_s N).args x ∧ b = (F8_s N).bs x := by
  dsimp only [F8_s] at h
  split at h
  · cases h; exact ⟨rfl, rfl⟩
  · cases h
noncomputable def F8_e (N : Nat) : Ent Tryz.prog := entOf (tabOf_ok Tryz.prog) (gam_ok _) mixed 8 Tryz.f8 Tryz.func8 rfl F8_an (lam N []) (by
    have e : actOf F8_an (Tryz.f8.body.getD .skip) 0 = [] := by kernel_rfl
    rw [e]
    intro p hp
    cases hp) (F8_s N) (fun _ => ⟨rfl, rfl⟩) (F8_text N) (F8_pat N) (F8_parF N)
/-! ### (*seismonet/seismonetmade.Dice).Nat (function 7) -/
def F7_an : Nat → Keep × Keep := anL [(5, ⟨[0, 6], [(5, 1)], [0], [], [], [], [], [], false⟩, ⟨[], [(5, 1)], [0], [], [], [], [], [], false⟩), (13, ⟨[], [], [0], [(5, 1)], [], [], [], [], false⟩, ⟨[], [], [0], [(5, 1)], [], [], [], [], false⟩)]
noncomputable def F7_g (N : Nat) : GamK := gam (P := Tryz.prog) [F18_e N, F8_e N]
noncomputable def F7_l13 (N : Nat) : LSpec where
  X := (List (List AV)) × (List (List AV)) × Int
  Y := ((List (List AV)) × (List (List AV)) × Int)
  p := fun s => match s.env.length, s.nin, s.at 5, s.bx 0 with
    | 41, 1, (AV.list 1 a0 none), some [(AV.list 1 a1 none), (AV.v (.int .i64 a2))] => some (a0, a1, a2)
    | _, _, _, _ => none
  st := fun x => mkS 41 [(5, (AV.list 1 x.1 none))] [(0, [(AV.list 1 x.2.1 none), (AV.v (.int .i64 x.2.2))])] (F7_an 13).1.toks 1
  out := fun y => (.exit 2, mkS 41 [(5, (AV.list 1 y.1 none))] [(0, [(AV.list 1 y.2.1 none), (AV.v (.int .i64 y.2.2))])] (F7_an 13).2.toks 1)
  sp := fun y α k => k (.exit 2, mkS 41 [(5, (AV.list 1 y.1 none))] [(0, [(AV.list 1 y.2.1 none), (AV.v (.int .i64 y.2.2))])] (F7_an 13).2.toks 1)
  spe := fun y α k => rfl
  b := fun x α kn ke => (match (decide ((x.1.length : Int) > 0)) with | true => (if 0 ≤ (i64 ((x.1.length : Int) - 1)) then (match x.1[(i64 ((x.1.length : Int) - 1)).toNat]? with | some c11 => (match c11[0]? with | some x12 => (match x12 with | .v (.int q14 n13) => (if q14 = .i64 then (match (n13 == 0) with | true => (if 0 ≤ (i64 ((x.1.length : Int) - 1)) ∧ (i64 ((x.1.length : Int) - 1)) ≤ x.1.length then (kn ((x.1.take (i64 ((x.1.length : Int) - 1)).toNat), x.2.1, x.2.2)) else none) | false => (ke (x.1, x.2.1, x.2.2))) else none) | _ => none) | none => none) | none => none) else none) | false => (ke (x.1, x.2.1, x.2.2)))
noncomputable abbrev F7_d13 (N : Nat) (x : (List (List AV)) × (List (List AV)) × Int) : Option (((List (List AV)) × (List (List AV)) × Int)) := (F7_l13 N).L N x
noncomputable def F7_l5 (N : Nat) : LSpec where
  X := (List (List AV)) × Int × (List (List AV)) × Int
  Y := ((List (List AV)) × (List (List AV)) × Int)
  p := fun s => match s.env.length, s.nin, s.at 5, s.at 0, s.at 6, s.bx 0 with
    | 41, 1, (AV.list 1 a0 (some 1280000320)), (AV.ptr 0 0), (AV.v (.int .i64 a1)), some [(AV.list 1 a2 none), (AV.v (.int .i64 a3))] => some (a0, a1, a2, a3)
    | _, _, _, _, _, _ => none
  st := fun x => mkS 41 [(5, (AV.list 1 x.1 (some 1280000320))), (0, (AV.ptr 0 0)), (6, (AV.v (.int .i64 x.2.1)))] [(0, [(AV.list 1 x.2.2.1 none), (AV.v (.int .i64 x.2.2.2))])] (F7_an 5).1.toks 1
  out := fun y => (.exit 0, mkS 41 [(5, (AV.list 1 y.1 (some 1280000320)))] [(0, [(AV.list 1 y.2.1 none), (AV.v (.int .i64 y.2.2))])] (F7_an 5).2.toks 1)
  sp := fun y α k => k (.exit 0, mkS 41 [(5, (AV.list 1 y.1 (some 1280000320)))] [(0, [(AV.list 1 y.2.1 none), (AV.v (.int .i64 y.2.2))])] (F7_an 5).2.toks 1)
  spe := fun y α k => rfl
  b := fun x α kn ke => (match (decide (x.2.1 > 0)) with | true => (match F18_d N (1000, x.2.2.1, x.2.2.2) with | some y4 => (match F8_d N ([[(AV.v (.int .i64 0))], [(AV.v (.int .i64 1))], [(AV.v (.int .i64 1073741823))], [(AV.v (.int .i64 y4.1))], [(AV.v (.int .i64 536870912))]], y4.2.1, y4.2.2) with | some y5 => (if (x.1.length + [[(AV.v (.int .i64 y5.1))]].length) * 8 ≤ maxBytes then (kn ((x.1 ++ [[(AV.v (.int .i64 y5.1))]]), (i64 (x.2.1 - 1)), y5.2.1, y5.2.2)) else none) | none => none) | none => none) | false => (ke (x.1, x.2.2.1, x.2.2.2)))
noncomputable abbrev F7_d5 (N : Nat) (x : (List (List AV)) × Int × (List (List AV)) × Int) : Option (((List (List AV)) × (List (List AV)) × Int)) := (F7_l5 N).L N x
noncomputable def F7_s (N : Nat) : FSpec where
  X := Int × (List (List AV)) × Int
  Y := (List (List AV)) × (List (List AV)) × Int
  ash := [[none], [none]]
  bsh := [[some 1, none]]
  S := ⟨[[some 1]], [[some 1, none]], [], [], []⟩
  bm := false
  pat := fun a b => match a, b with
    | [(AV.ptr 0 0), (AV.v (.int .i64 a0))], [[(AV.list 1 a1 none), (AV.v (.int .i64 a2))]] => some (a0, a1, a2)
    | _, _ => none
  args := fun x => [(AV.ptr 0 0), (AV.v (.int .i64 x.1))]
  bs := fun x => [[(AV.list 1 x.2.1 none), (AV.v (.int .i64 x.2.2))]]
  ret := fun y => ⟨(AV.list 1 y.1 none), [[(AV.list 1 y.2.1 none), (AV.v (.int .i64 y.2.2))]], none, [], [], []⟩
  t := fun x α k => (match F18_d N ((i64 (x.1 + 1)), x.2.1, x.2.2) with | some y1 => (match F7_d5 N (([] : List (List AV)), y1.1, y1.2.1, y1.2.2) with | some y6 => (match F7_d13 N (y6.1, y6.2.1, y6.2.2) with | some y15 => (k (y15.1, y15.2.1, y15.2.2)) | none => none) | none => none) | none => none)
noncomputable abbrev F7_d (N : Nat) (x : Int × (List (List AV)) × Int) : Option ((List (List AV)) × (List (List AV)) × Int) := (F7_s N).d x
theorem F7_par13 (N : Nat) : Par (F7_l13 N).b := by
  intro x α β kn ke kn' ke' r r' h h1 h2
  revert h
  dsimp only [F7_l13]
  (repeat' (first | (with_reducible refine par_ite ?_ ?_) | (with_reducible refine par_both ?_ ?_) | split)) <;> intro h <;> first | exact h1 _ h | exact h2 _ h | (cases h; done)
theorem F7_body13 (N : Nat) (x : (F7_l13 N).X) (α : Type) (kn : AS → Option α) (ke : Out → Option α) : around (tabOf Tryz.prog) (F7_g N) F7_an (lam N [(5, F7_l5 N), (13, F7_l13 N)]) 13 (bodyOf (nthLoop 13 (Tryz.f7.body.getD .skip))) ((F7_l13 N).st x) kn ke = (F7_l13 N).b x α (fun x' => kn ((F7_l13 N).st x')) (fun y => (F7_l13 N).sp y α ke) := by kernel_rfl
theorem F7_pat13 (N : Nat) (s : AS) (x : (F7_l13 N).X) (hc : s = canon (F7_an 13).1 s) (h : (F7_l13 N).p s = some x) : s = (F7_l13 N).st x := by
  dsimp only [F7_l13] at h
  split at h
  · cases h
    exact canon_mk hc ‹_› ‹_› rfl rfl rfl ⟨‹_›, trivial⟩ ⟨‹_›, trivial⟩
  · cases h
theorem F7_loop13 (N : Nat) : ∀ s o, s = canon (F7_an 13).1 s → (lam N [(5, F7_l5 N), (13, F7_l13 N)]).v 13 s = some o → LoopSem Tryz.prog (nthLoop 13 (Tryz.f7.body.getD .skip)) s o :=
  loop_ok (tabOf_ok Tryz.prog) (gam_ok _) mixed F7_an N [(5, F7_l5 N), (13, F7_l13 N)] 13 (bodyOf (nthLoop 13 (Tryz.f7.body.getD .skip))) (nthLoop 13 (Tryz.f7.body.getD .skip)) (by kernel_rfl) (by
    have e : actOf F7_an (bodyOf (nthLoop 13 (Tryz.f7.body.getD .skip))) (13 + 1) = [] := by kernel_rfl
    rw [e]
    intro p hp
    cases hp) (F7_l13 N) rfl (fun s x hc h => F7_pat13 N s x hc h) (fun x => rfl) (fun x α kn ke => (F7_body13 N x α kn ke).trans (congrArg ((F7_l13 N).b x α _) (funext fun y => (F7_l13 N).spe y α ke))) (F7_par13 N)
theorem F7_par5 (N : Nat) : Par (F7_l5 N).b := by
  intro x α β kn ke kn' ke' r r' h h1 h2
  revert h
  dsimp only [F7_l5]
  (repeat' (first | (with_reducible refine par_ite ?_ ?_) | (with_reducible refine par_both ?_ ?_) | split)) <;> intro h <;> first | exact h1 _ h | exact h2 _ h | (cases h; done)
theorem F7_body5 (N : Nat) (x : (F7_l5 N).X) (α : Type) (kn : AS → Option α) (ke : Out → Option α) : around (tabOf Tryz.prog) (F7_g N) F7_an (lam N [(5, F7_l5 N), (13, F7_l13 N)]) 5 (bodyOf (nthLoop 5 (Tryz.f7.body.getD .skip))) ((F7_l5 N).st x) kn ke = (F7_l5 N).b x α (fun x' => kn ((F7_l5 N).st x')) (fun y => (F7_l5 N).sp y α ke) := by kernel_rfl
theorem F7_pat5 (N : Nat) (s : AS) (x : (F7_l5 N).X) (hc : s = canon (F7_an 5).1 s) (h : (F7_l5 N).p s = some x) : s = (F7_l5 N).st x := by
  dsimp only [F7_l5] at h
  split at h
  · cases h
    exact canon_mk hc ‹_› ‹_› rfl rfl rfl ⟨‹_›, ‹_›, ‹_›, trivial⟩ ⟨‹_›, trivial⟩
  · cases h
theorem F7_loop5 (N : Nat) : ∀ s o, s = canon (F7_an 5).1 s → (lam N [(5, F7_l5 N), (13, F7_l13 N)]).v 5 s = some o → LoopSem Tryz.prog (nthLoop 5 (Tryz.f7.body.getD .skip)) s o :=
  loop_ok (tabOf_ok Tryz.prog) (gam_ok _) mixed F7_an N [(5, F7_l5 N), (13, F7_l13 N)] 5 (bodyOf (nthLoop 5 (Tryz.f7.body.getD .skip))) (nthLoop 5 (Tryz.f7.body.getD .skip)) (by kernel_rfl) (by
    have e : actOf F7_an (bodyOf (nthLoop 5 (Tryz.f7.body.getD .skip))) (5 + 1) = [] := by kernel_rfl
    rw [e]
    intro p hp
    cases hp) (F7_l5 N) rfl (fun s x hc h => F7_pat5 N s x hc h) (fun x => rfl) (fun x α kn ke => (F7_body5 N x α kn ke).trans (congrArg ((F7_l5 N).b x α _) (funext fun y => (F7_l5 N).spe y α ke))) (F7_par5 N)
theorem F7_parF (N : Nat) : ParF (F7_s N).t := by
  intro x α β k k' r r' h h1
  revert h
  dsimp only [F7_s]
  (repeat' (first | (with_reducible refine par_ite ?_ ?_) | (with_reducible refine par_both ?_ ?_) | split)) <;> intro h <;> first | exact h1 _ h | (cases h; done)
theorem F7_text (N : Nat) (x : (F7_s N).X) : acall (tabOf Tryz.prog) (F7_g N) F7_an (lam N [(5, F7_l5 N), (13, F7_l13 N)]) Tryz.f7 (F7_s N).S ((F7_s N).args x) ((F7_s N).bs x) = (F7_s N).t x Ret (fun y => some ((F7_s N).ret y)) := by kernel_rfl
theorem F7_pat (N : Nat) (a : List AV) (b : List (List AV)) (x : (F7_s N).X) (h : (F7_s N).pat a b = some x) : a = (F7_s N).args x ∧ b = (F7_s N).bs x := by
  dsimp only [F7_s] at h
  split at h
  · cases h; exact ⟨rfl, rfl⟩
  · cases h
noncomputable def F7_e (N : Nat) : Ent Tryz.prog := entOf (tabOf_ok Tryz.prog) (gam_ok _) mixed 7 Tryz.f7 Tryz.func7 rfl F7_an (lam N [(5, F7_l5 N), (13, F7_l13 N)]) (by
    have e : actOf F7_an (Tryz.f7.body.getD .skip) 0 = [(5, nthLoop 5 (Tryz.f7.body.getD .skip)), (13, nthLoop 13 (Tryz.f7.body.getD .skip))] := by kernel_rfl
    rw [e]
    intro p hp
    rcases List.mem_cons.1 hp with rfl | hp
    · exact F7_loop5 N
    rcases List.mem_cons.1 hp with rfl | hp
    · exact F7_loop13 N
    cases hp) (F7_s N) (fun _ => ⟨rfl, rfl⟩) (F7_text N) (F7_pat N) (F7_parF N)
/-! ### seismonet/seismonetref01.In (function 50) -/
def F50_an : Nat → Keep × Keep := anL []
noncomputable def F50_g (N : Nat) : GamK := gam (P := Tryz.prog) []
noncomputable def F50_s (N : Nat) : FSpec where
  X := Int × Int × Int
  Y := Bool
  ash := [[none], [none], [none]]
  bsh := []
  S := ⟨[[none]], [], [], [], []⟩
  bm := false
  pat := fun a b => match a, b with
    | [(AV.v (.int .i64 a0)), (AV.v (.int .i64 a1)), (AV.v (.int .i64 a2))], [] => some (a0, a1, a2)
    | _, _ => none
  args := fun x => [(AV.v (.int .i64 x.1)), (AV.v (.int .i64 x.2.1)), (AV.v (.int .i64 x.2.2))]
  bs := fun x => []
  ret := fun y => ⟨(AV.v (.bool y)), [], none, [], [], []⟩
  t := fun x α k => (match (decide (x.1 ≥ x.2.1)) with | true => (k (decide (x.1 ≤ x.2.2))) | false => (k false))
noncomputable abbrev F50_d (N : Nat) (x : Int × Int × Int) : Option (Bool) := (F50_s N).d x
theorem F50_parF (N : Nat) : ParF (F50_s N).t := by
  intro x α β k k' r r' h h1
  revert h
  dsimp only [F50_s]
  (repeat' (first | (with_reducible refine par_ite ?_ ?_) | (with_reducible refine par_both ?_ ?_) | split)) <;> intro h <;> first | exact h1 _ h | (cases h; done)
theorem F50_text (N : Nat) (x : (F50_s N).X) : acall (tabOf Tryz.prog) (F50_g N) F50_an (lam N []) Tryz.f50 (F50_s N).S ((F50_s N).args x) ((F50_s N).bs x) = (F50_s N).t x Ret (fun y => some ((F50_s N).ret y)) := by kernel_rfl
theorem F50_pat (N : Nat) (a : List AV) (b : List (List AV)) (x : (F50_s N).X) (h : (F50_s N).pat a b = some x) : a = (F50_s N).args x ∧ b = (F50_s N).bs x := by
  dsimp only [F50_s] at h
  split at h
  · cases h; exact ⟨rfl, rfl⟩
  · cases h
noncomputable def F50_e (N : Nat) : Ent Tryz.prog := entOf (tabOf_ok Tryz.prog) (gam_ok _) mixed 50 Tryz.f50 Tryz.func50 rfl F50_an (lam N []) (by
    have e : actOf F50_an (Tryz.f50.body.getD .skip) 0 = [] := by kernel_rfl
    rw [e]
    intro p hp
    cases hp) (F50_s N) (fun _ => ⟨rfl, rfl⟩) (F50_text N) (F50_pat N) (F50_parF N)
/-! ### seismonet/seismonetref17.Valid (function 26) -/
def F26_an : Nat → Keep × Keep := anL [(4, ⟨[3], [], [], [(0, 1)], [], [], [], [], false⟩, ⟨[2], [], [], [(0, 1)], [], [], [], [], false⟩)]
noncomputable def F26_g (N : Nat) : GamK := gam (P := Tryz.prog) [F50_e N]
noncomputable def F26_l4 (N : Nat) : LSpec where
  X := (List (List AV)) × Int
  Y := ((List (List AV)) × Bool) ⊕ ((List (List AV)))
  p := fun s => match s.env.length, s.nin, s.at 0, s.at 3 with
    | 33, 0, (AV.list 1 a0 none), (AV.v (.int .i64 a1)) => some (a0, a1)
    | _, _, _, _ => none
  st := fun x => mkS 33 [(0, (AV.list 1 x.1 none)), (3, (AV.v (.int .i64 x.2)))] [] (F26_an 4).1.toks 0
  out := fun y => match y with
    | .inl y => (.ret, mkS 33 [(0, (AV.list 1 y.1 none)), (2, (AV.v (.bool y.2)))] [] (F26_an 4).2.toks 0)
    | .inr y => (.exit 0, mkS 33 [(0, (AV.list 1 y none))] [] (F26_an 4).2.toks 0)
  sp := fun y α k => match y with
    | .inl y => k (.ret, mkS 33 [(0, (AV.list 1 y.1 none)), (2, (AV.v (.bool y.2)))] [] (F26_an 4).2.toks 0)
    | .inr y => k (.exit 0, mkS 33 [(0, (AV.list 1 y none))] [] (F26_an 4).2.toks 0)
  spe := fun y α k => by rcases y with _ | _ <;> rfl
  b := fun x α kn ke => (match (decide (x.2 < (x.1.length : Int))) with | true => (if 0 ≤ x.2 then (match x.1[x.2.toNat]? with | some c1 => (match c1[0]? with | some x2 => (match x2 with | .v (.int q4 n3) => (if q4 = .i64 then (match F50_d N (n3, 0, 1073741823) with | some y5 => (match (!y5) with | true => (ke (.inl (x.1, false))) | false => (kn (x.1, (i64 (x.2 + 1))))) | none => none) else none) | _ => none) | none => none) | none => none) else none) | false => (ke (.inr x.1)))
noncomputable abbrev F26_d4 (N : Nat) (x : (List (List AV)) × Int) : Option (((List (List AV)) × Bool) ⊕ ((List (List AV)))) := (F26_l4 N).L N x
noncomputable def F26_s (N : Nat) : FSpec where
  X := (List (List AV))
  Y := Bool
  ash := [[some 1]]
  bsh := []
  S := ⟨[[none]], [], [], [], []⟩
  bm := false
  pat := fun a b => match a, b with
    | [(AV.list 1 a0 none)], [] => some a0
    | _, _ => none
  args := fun x => [(AV.list 1 x none)]
  bs := fun x => []
  ret := fun y => ⟨(AV.v (.bool y)), [], none, [], [], []⟩
  t := fun x α k => (match F26_d4 N (x, 0) with | some y6 => (match y6 with | .inl z7 => (k z7.2) | .inr z8 => (match (decide ((z8.length : Int) ≤ 64)) with | true => (match ((z8.length : Int) == 0) with | true => (k true) | false => (if 0 ≤ (i64 ((z8.length : Int) - 1)) then (match z8[(i64 ((z8.length : Int) - 1)).toNat]? with | some c9 => (match c9[0]? with | some x10 => (match x10 with | .v (.int q12 n11) => (if q12 = .i64 then (k (n11 != 0)) else none) | _ => none) | none => none) | none => none) else none)) | false => (k false))) | none => none)
noncomputable abbrev F26_d (N : Nat) (x : (List (List AV))) : Option (Bool) := (F26_s N).d x
theorem F26_par4 (N : Nat) : Par (F26_l4 N).b := by
  intro x α β kn ke kn' ke' r r' h h1 h2
  revert h
  dsimp only [F26_l4]
  (repeat' (first | (with_reducible refine par_ite ?_ ?_) | (with_reducible refine par_both ?_ ?_) | split)) <;> intro h <;> first | exact h1 _ h | exact h2 _ h | (cases h; done)
theorem F26_body4 (N : Nat) (x : (F26_l4 N).X) (α : Type) (kn : AS → Option α) (ke : Out → Option α) : around (tabOf Tryz.prog) (F26_g N) F26_an (lam N [(4, F26_l4 N)]) 4 (bodyOf (nthLoop 4 (Tryz.f26.body.getD .skip))) ((F26_l4 N).st x) kn ke = (F26_l4 N).b x α (fun x' => kn ((F26_l4 N).st x')) (fun y => (F26_l4 N).sp y α ke) := by kernel_rfl
theorem F26_pat4 (N : Nat) (s : AS) (x : (F26_l4 N).X) (hc : s = canon (F26_an 4).1 s) (h : (F26_l4 N).p s = some x) : s = (F26_l4 N).st x := by
  dsimp only [F26_l4] at h
  split at h
  · cases h
    exact canon_mk hc ‹_› ‹_› rfl rfl rfl ⟨‹_›, ‹_›, trivial⟩ trivial
  · cases h
theorem F26_loop4 (N : Nat) : ∀ s o, s = canon (F26_an 4).1 s → (lam N [(4, F26_l4 N)]).v 4 s = some o → LoopSem Tryz.prog (nthLoop 4 (Tryz.f26.body.getD .skip)) s o :=
  loop_ok (tabOf_ok Tryz.prog) (gam_ok _) mixed F26_an N [(4, F26_l4 N)] 4 (bodyOf (nthLoop 4 (Tryz.f26.body.getD .skip))) (nthLoop 4 (Tryz.f26.body.getD .skip)) (by kernel_rfl) (by
    have e : actOf F26_an (bodyOf (nthLoop 4 (Tryz.f26.body.getD .skip))) (4 + 1) = [] := by kernel_rfl
    rw [e]
    intro p hp
    cases hp) (F26_l4 N) rfl (fun s x hc h => F26_pat4 N s x hc h) (fun x => rfl) (fun x α kn ke => (F26_body4 N x α kn ke).trans (congrArg ((F26_l4 N).b x α _) (funext fun y => (F26_l4 N).spe y α ke))) (F26_par4 N)
theorem F26_parF (N : Nat) : ParF (F26_s N).t := by
  intro x α β k k' r r' h h1
  revert h
  dsimp only [F26_s]
  (repeat' (first | (with_reducible refine par_ite ?_ ?_) | (with_reducible refine par_both ?_ ?_) | split)) <;> intro h <;> first | exact h1 _ h | (cases h; done)
theorem F26_text (N : Nat) (x : (F26_s N).X) : acall (tabOf Tryz.prog) (F26_g N) F26_an (lam N [(4, F26_l4 N)]) Tryz.f26 (F26_s N).S ((F26_s N).args x) ((F26_s N).bs x) = (F26_s N).t x Ret (fun y => some ((F26_s N).ret y)) := by kernel_rfl
theorem F26_pat (N : Nat) (a : List AV) (b : List (List AV)) (x : (F26_s N).X) (h : (F26_s N).pat a b = some x) : a = (F26_s N).args x ∧ b = (F26_s N).bs x := by
  dsimp only [F26_s] at h
  split at h
  · cases h; exact ⟨rfl, rfl⟩
  · cases h
noncomputable def F26_e (N : Nat) : Ent Tryz.prog := entOf (tabOf_ok Tryz.prog) (gam_ok _) mixed 26 Tryz.f26 Tryz.func26 rfl F26_an (lam N [(4, F26_l4 N)]) (by
    have e : actOf F26_an (Tryz.f26.body.getD .skip) 0 = [(4, nthLoop 4 (Tryz.f26.body.getD .skip))] := by kernel_rfl
    rw [e]
    intro p hp
    rcases List.mem_cons.1 hp with rfl | hp
    · exact F26_loop4 N
    cases hp) (F26_s N) (fun _ => ⟨rfl, rfl⟩) (F26_text N) (F26_pat N) (F26_parF N)
/-! ### seismonet/seismonetref17.limited (function 43) -/
def F43_an : Nat → Keep × Keep := anL []
noncomputable def F43_g (N : Nat) : GamK := gam (P := Tryz.prog) []
noncomputable def F43_s (N : Nat) : FSpec where
  X := (List (List AV))
  Y := (List (List AV)) × Int
  ash := [[some 1]]
  bsh := []
  S := ⟨[[some 1], [none]], [], [], [], []⟩
  bm := false
  pat := fun a b => match a, b with
    | [(AV.list 1 a0 none)], [] => some a0
    | _, _ => none
  args := fun x => [(AV.list 1 x none)]
  bs := fun x => []
  ret := fun y => ⟨(AV.tup [(AV.list 1 y.1 none), (AV.v (.int .i64 y.2))]), [], none, [], [], []⟩
  t := fun x α k => (match (decide ((x.length : Int) > 64)) with | true => (k (([] : List (List AV)), 8)) | false => (k (x, 0)))
noncomputable abbrev F43_d (N : Nat) (x : (List (List AV))) : Option ((List (List AV)) × Int) := (F43_s N).d x
theorem F43_parF (N : Nat) : ParF (F43_s N).t := by
  intro x α β k k' r r' h h1
  revert h
  dsimp only [F43_s]
  (repeat' (first | (with_reducible refine par_ite ?_ ?_) | (with_reducible refine par_both ?_ ?_) | split)) <;> intro h <;> first | exact h1 _ h | (cases h; done)
theorem F43_text (N : Nat) (x : (F43_s N).X) : acall (tabOf Tryz.prog) (F43_g N) F43_an (lam N []) Tryz.f43 (F43_s N).S ((F43_s N).args x) ((F43_s N).bs x) = (F43_s N).t x Ret (fun y => some ((F43_s N).ret y)) := by kernel_rfl
theorem F43_pat (N : Nat) (a : List AV) (b : List (List AV)) (x : (F43_s N).X) (h : (F43_s N).pat a b = some x) : a = (F43_s N).args x ∧ b = (F43_s N).bs x := by
  dsimp only [F43_s] at h
  split at h
  · cases h; exact ⟨rfl, rfl⟩
  · cases h
noncomputable def F43_e (N : Nat) : Ent Tryz.prog := entOf (tabOf_ok Tryz.prog) (gam_ok _) mixed 43 Tryz.f43 Tryz.func43 rfl F43_an (lam N []) (by
    have e : actOf F43_an (Tryz.f43.body.getD .skip) 0 = [] := by kernel_rfl
    rw [e]
    intro p hp
    cases hp) (F43_s N) (fun _ => ⟨rfl, rfl⟩) (F43_text N) (F43_pat N) (F43_parF N)
/-! ### seismonet/seismonetref17.Add (function 10) -/
def F10_an : Nat → Keep × Keep := anL [(10, ⟨[7, 8], [(6, 1)], [], [(0, 1), (1, 1)], [], [], [], [], false⟩, ⟨[], [(6, 1)], [], [], [], [], [], [], false⟩), (12, ⟨[7, 8], [(6, 1)], [], [(0, 1), (1, 1)], [], [], [], [], true⟩, ⟨[7, 8], [(6, 1)], [], [(0, 1), (1, 1)], [], [], [], [], false⟩)]
noncomputable def F10_g (N : Nat) : GamK := gam (P := Tryz.prog) [F26_e N, F43_e N]
noncomputable def F10_l12 (N : Nat) : LSpec where
  X := (List (List AV)) × (List (List AV)) × (List (List AV)) × Int × Int
  Y := ((List (List AV)) × (List (List AV)) × (List (List AV)) × Int × Int) ⊕ ((List (List AV)) × (List (List AV)) × (List (List AV)) × Int × Int)
  p := fun s => match s.env.length, s.nin, s.at 6, s.at 0, s.at 1, s.at 7, s.at 8 with
    | 64, 0, (AV.list 1 a0 (some 1280000384)), (AV.list 1 a1 none), (AV.list 1 a2 none), (AV.v (.int .i64 a3)), (AV.v (.int .i64 a4)) => some (a0, a1, a2, a3, a4)
    | _, _, _, _, _, _, _ => none
  st := fun x => mkS 64 [(6, (AV.list 1 x.1 (some 1280000384))), (0, (AV.list 1 x.2.1 none)), (1, (AV.list 1 x.2.2.1 none)), (7, (AV.v (.int .i64 x.2.2.2.1))), (8, (AV.v (.int .i64 x.2.2.2.2)))] [] (F10_an 12).1.toks 0
  out := fun y => match y with
    | .inl y => (.normal, mkS 64 [(6, (AV.list 1 y.1 (some 1280000384))), (0, (AV.list 1 y.2.1 none)), (1, (AV.list 1 y.2.2.1 none)), (7, (AV.v (.int .i64 y.2.2.2.1))), (8, (AV.v (.int .i64 y.2.2.2.2)))] [] (F10_an 12).2.toks 0)
    | .inr y => (.exit 0, mkS 64 [(6, (AV.list 1 y.1 (some 1280000384))), (0, (AV.list 1 y.2.1 none)), (1, (AV.list 1 y.2.2.1 none)), (7, (AV.v (.int .i64 y.2.2.2.1))), (8, (AV.v (.int .i64 y.2.2.2.2)))] [] (F10_an 12).2.toks 0)
  sp := fun y α k => match y with
    | .inl y => k (.normal, mkS 64 [(6, (AV.list 1 y.1 (some 1280000384))), (0, (AV.list 1 y.2.1 none)), (1, (AV.list 1 y.2.2.1 none)), (7, (AV.v (.int .i64 y.2.2.2.1))), (8, (AV.v (.int .i64 y.2.2.2.2)))] [] (F10_an 12).2.toks 0)
    | .inr y => k (.exit 0, mkS 64 [(6, (AV.list 1 y.1 (some 1280000384))), (0, (AV.list 1 y.2.1 none)), (1, (AV.list 1 y.2.2.1 none)), (7, (AV.v (.int .i64 y.2.2.2.1))), (8, (AV.v (.int .i64 y.2.2.2.2)))] [] (F10_an 12).2.toks 0)
  spe := fun y α k => by rcases y with _ | _ <;> rfl
  b := fun x α kn ke => (match (decide (x.2.2.2.2 < (x.2.1.length : Int))) with | true => (ke (.inl (x.1, x.2.1, x.2.2.1, x.2.2.2.1, x.2.2.2.2))) | false => (match (decide (x.2.2.2.2 < (x.2.2.1.length : Int))) with | true => (ke (.inl (x.1, x.2.1, x.2.2.1, x.2.2.2.1, x.2.2.2.2))) | false => (match (decide (x.2.2.2.1 > 0)) with | true => (ke (.inl (x.1, x.2.1, x.2.2.1, x.2.2.2.1, x.2.2.2.2))) | false => (ke (.inr (x.1, x.2.1, x.2.2.1, x.2.2.2.1, x.2.2.2.2))))))
noncomputable abbrev F10_d12 (N : Nat) (x : (List (List AV)) × (List (List AV)) × (List (List AV)) × Int × Int) : Option (((List (List AV)) × (List (List AV)) × (List (List AV)) × Int × Int) ⊕ ((List (List AV)) × (List (List AV)) × (List (List AV)) × Int × Int)) := (F10_l12 N).L N x
noncomputable def F10_l10 (N : Nat) : LSpec where
  X := (List (List AV)) × (List (List AV)) × (List (List AV)) × Int × Int
  Y := ((List (List AV)))
  p := fun s => match s.env.length, s.nin, s.at 6, s.at 0, s.at 1, s.at 7, s.at 8 with
    | 64, 0, (AV.list 1 a0 (some 1280000384)), (AV.list 1 a1 none), (AV.list 1 a2 none), (AV.v (.int .i64 a3)), (AV.v (.int .i64 a4)) => some (a0, a1, a2, a3, a4)
    | _, _, _, _, _, _, _ => none
  st := fun x => mkS 64 [(6, (AV.list 1 x.1 (some 1280000384))), (0, (AV.list 1 x.2.1 none)), (1, (AV.list 1 x.2.2.1 none)), (7, (AV.v (.int .i64 x.2.2.2.1))), (8, (AV.v (.int .i64 x.2.2.2.2)))] [] (F10_an 10).1.toks 0
  out := fun y => (.exit 0, mkS 64 [(6, (AV.list 1 y (some 1280000384)))] [] (F10_an 10).2.toks 0)
  sp := fun y α k => k (.exit 0, mkS 64 [(6, (AV.list 1 y (some 1280000384)))] [] (F10_an 10).2.toks 0)
  spe := fun y α k => rfl
  b := fun x α kn ke => (match F10_d12 N (x.1, x.2.1, x.2.2.1, x.2.2.2.1, x.2.2.2.2) with | some y3 => (match y3 with | .inl z4 => (match (decide (z4.2.2.2.2 < (z4.2.1.length : Int))) with | true => (if 0 ≤ z4.2.2.2.2 then (match z4.2.1[z4.2.2.2.2.toNat]? with | some c5 => (match c5[0]? with | some x6 => (match x6 with | .v (.int q8 n7) => (if q8 = .i64 then (match (decide (z4.2.2.2.2 < (z4.2.2.1.length : Int))) with | true => (if 0 ≤ z4.2.2.2.2 then (match z4.2.2.1[z4.2.2.2.2.toNat]? with | some c9 => (match c9[0]? with | some x10 => (match x10 with | .v (.int q12 n11) => (if q12 = .i64 then (if (z4.1.length + [[(AV.v (.int .i64 ((i64 ((i64 (z4.2.2.2.1 + n7)) + n11)).tmod 1073741824)))]].length) * 8 ≤ maxBytes then (kn ((z4.1 ++ [[(AV.v (.int .i64 ((i64 ((i64 (z4.2.2.2.1 + n7)) + n11)).tmod 1073741824)))]]), z4.2.1, z4.2.2.1, (i64 ((i64 ((i64 (z4.2.2.2.1 + n7)) + n11)).tdiv 1073741824)), (i64 (z4.2.2.2.2 + 1)))) else none) else none) | _ => none) | none => none) | none => none) else none) | false => (if (z4.1.length + [[(AV.v (.int .i64 ((i64 (z4.2.2.2.1 + n7)).tmod 1073741824)))]].length) * 8 ≤ maxBytes then (kn ((z4.1 ++ [[(AV.v (.int .i64 ((i64 (z4.2.2.2.1 + n7)).tmod 1073741824)))]]), z4.2.1, z4.2.2.1, (i64 ((i64 (z4.2.2.2.1 + n7)).tdiv 1073741824)), (i64 (z4.2.2.2.2 + 1)))) else none)) else none) | _ => none) | none => none) | none => none) else none) | false => (match (decide (z4.2.2.2.2 < (z4.2.2.1.length : Int))) with | true => (if 0 ≤ z4.2.2.2.2 then (match z4.2.2.1[z4.2.2.2.2.toNat]? with | some c13 => (match c13[0]? with | some x14 => (match x14 with | .v (.int q16 n15) => (if q16 = .i64 then (if (z4.1.length + [[(AV.v (.int .i64 ((i64 (z4.2.2.2.1 + n15)).tmod 1073741824)))]].length) * 8 ≤ maxBytes then (kn ((z4.1 ++ [[(AV.v (.int .i64 ((i64 (z4.2.2.2.1 + n15)).tmod 1073741824)))]]), z4.2.1, z4.2.2.1, (i64 ((i64 (z4.2.2.2.1 + n15)).tdiv 1073741824)), (i64 (z4.2.2.2.2 + 1)))) else none) else none) | _ => none) | none => none) | none => none) else none) | false => (if (z4.1.length + [[(AV.v (.int .i64 (z4.2.2.2.1.tmod 1073741824)))]].length) * 8 ≤ maxBytes then (kn ((z4.1 ++ [[(AV.v (.int .i64 (z4.2.2.2.1.tmod 1073741824)))]]), z4.2.1, z4.2.2.1, (i64 (z4.2.2.2.1.tdiv 1073741824)), (i64 (z4.2.2.2.2 + 1)))) else none))) | .inr z17 => (ke z17.1)) | none => none)
noncomputable abbrev F10_d10 (N : Nat) (x : (List (List AV)) × (List (List AV)) × (List (List AV)) × Int × Int) : Option (((List (List AV)))) := (F10_l10 N).L N x
noncomputable def F10_s (N : Nat) : FSpec where
  X := (List (List AV)) × (List (List AV))
  Y := (List (List AV)) × Int
  ash := [[some 1], [some 1]]
  bsh := []
  S := ⟨[[some 1], [none]], [], [], [], []⟩
  bm := false
  pat := fun a b => match a, b with
    | [(AV.list 1 a0 none), (AV.list 1 a1 none)], [] => some (a0, a1)
    | _, _ => none
  args := fun x => [(AV.list 1 x.1 none), (AV.list 1 x.2 none)]
  bs := fun x => []
  ret := fun y => ⟨(AV.tup [(AV.list 1 y.1 none), (AV.v (.int .i64 y.2))]), [], none, [], [], []⟩
  t := fun x α k => (match F26_d N x.1 with | some y1 => (match (!y1) with | true => (k (([] : List (List AV)), 1)) | false => (match F26_d N x.2 with | some y2 => (match (!y2) with | true => (k (([] : List (List AV)), 1)) | false => (match F10_d10 N (([] : List (List AV)), x.1, x.2, 0, 0) with | some y18 => (match F43_d N y18 with | some y19 => (k (y19.1, y19.2)) | none => none) | none => none)) | none => none)) | none => none)
noncomputable abbrev F10_d (N : Nat) (x : (List (List AV)) × (List (List AV))) : Option ((List (List AV)) × Int) := (F10_s N).d x
theorem F10_par12 (N : Nat) : Par (F10_l12 N).b := by
  intro x α β kn ke kn' ke' r r' h h1 h2
  revert h
  dsimp only [F10_l12]
  (repeat' (first | (with_reducible refine par_ite ?_ ?_) | (with_reducible refine par_both ?_ ?_) | split)) <;> intro h <;> first | exact h1 _ h | exact h2 _ h | (cases h; done)
theorem F10_body12 (N : Nat) (x : (F10_l12 N).X) (α : Type) (kn : (F10_l12 N).X → Option α) (ke : Out → Option α) : pieceRun (tabOf Tryz.prog) (F10_g N) F10_an (lam N [(10, F10_l10 N), (12, F10_l12 N)]) 12 (nthLoop 12 (Tryz.f10.body.getD .skip)) ((F10_l12 N).st x) ke = (F10_l12 N).b x α kn (fun y => (F10_l12 N).sp y α ke) := by kernel_rfl
theorem F10_pat12 (N : Nat) (s : AS) (x : (F10_l12 N).X) (hc : s = canon (F10_an 12).1 s) (h : (F10_l12 N).p s = some x) : s = (F10_l12 N).st x := by
  dsimp only [F10_l12] at h
  split at h
  · cases h
    exact canon_mk hc ‹_› ‹_› rfl rfl rfl ⟨‹_›, ‹_›, ‹_›, ‹_›, ‹_›, trivial⟩ trivial
  · cases h
theorem F10_loop12 (N : Nat) : ∀ s o, s = canon (F10_an 12).1 s → (lam N [(10, F10_l10 N), (12, F10_l12 N)]).v 12 s = some o → LoopSem Tryz.prog (nthLoop 12 (Tryz.f10.body.getD .skip)) s o :=
  piece_ok (tabOf_ok Tryz.prog) (gam_ok _) mixed F10_an N [(10, F10_l10 N), (12, F10_l12 N)] 12 _ (by
    have e : actOf (uncut F10_an 12) (nthLoop 12 (Tryz.f10.body.getD .skip)) 12 = [] := by kernel_rfl
    rw [e]
    intro p hp
    cases hp) (F10_l12 N) rfl (fun s x hc h => F10_pat12 N s x hc h) (fun x α kn ke => (F10_body12 N x α kn ke).trans (congrArg ((F10_l12 N).b x α _) (funext fun y => (F10_l12 N).spe y α ke))) (F10_par12 N)
theorem F10_par10 (N : Nat) : Par (F10_l10 N).b := by
  intro x α β kn ke kn' ke' r r' h h1 h2
  revert h
  dsimp only [F10_l10]
  (repeat' (first | (with_reducible refine par_ite ?_ ?_) | (with_reducible refine par_both ?_ ?_) | split)) <;> intro h <;> first | exact h1 _ h | exact h2 _ h | (cases h; done)
theorem F10_body10 (N : Nat) (x : (F10_l10 N).X) (α : Type) (kn : AS → Option α) (ke : Out → Option α) : around (tabOf Tryz.prog) (F10_g N) F10_an (lam N [(10, F10_l10 N), (12, F10_l12 N)]) 10 (bodyOf (nthLoop 10 (Tryz.f10.body.getD .skip))) ((F10_l10 N).st x) kn ke = (F10_l10 N).b x α (fun x' => kn ((F10_l10 N).st x')) (fun y => (F10_l10 N).sp y α ke) := by kernel_rfl
theorem F10_pat10 (N : Nat) (s : AS) (x : (F10_l10 N).X) (hc : s = canon (F10_an 10).1 s) (h : (F10_l10 N).p s = some x) : s = (F10_l10 N).st x := by
  dsimp only [F10_l10] at h
  split at h
  · cases h
    exact canon_mk hc ‹_› ‹_› rfl rfl rfl ⟨‹_›, ‹_›, ‹_›, ‹_›, ‹_›, trivial⟩ trivial
  · cases h
theorem F10_loop10 (N : Nat) : ∀ s o, s = canon (F10_an 10).1 s → (lam N [(10, F10_l10 N), (12, F10_l12 N)]).v 10 s = some o → LoopSem Tryz.prog (nthLoop 10 (Tryz.f10.body.getD .skip)) s o :=
  loop_ok (tabOf_ok Tryz.prog) (gam_ok _) mixed F10_an N [(10, F10_l10 N), (12, F10_l12 N)] 10 (bodyOf (nthLoop 10 (Tryz.f10.body.getD .skip))) (nthLoop 10 (Tryz.f10.body.getD .skip)) (by kernel_rfl) (by
    have e : actOf F10_an (bodyOf (nthLoop 10 (Tryz.f10.body.getD .skip))) (10 + 1) = [(12, nthLoop 12 (Tryz.f10.body.getD .skip))] := by kernel_rfl
    rw [e]
    intro p hp
    rcases List.mem_cons.1 hp with rfl | hp
    · exact F10_loop12 N
    cases hp) (F10_l10 N) rfl (fun s x hc h => F10_pat10 N s x hc h) (fun x => rfl) (fun x α kn ke => (F10_body10 N x α kn ke).trans (congrArg ((F10_l10 N).b x α _) (funext fun y => (F10_l10 N).spe y α ke))) (F10_par10 N)
theorem F10_parF (N : Nat) : ParF (F10_s N).t := by
  intro x α β k k' r r' h h1
  revert h
  dsimp only [F10_s]
  (repeat' (first | (with_reducible refine par_ite ?_ ?_) | (with_reducible refine par_both ?_ ?_) | split)) <;> intro h <;> first | exact h1 _ h | (cases h; done)
theorem F10_text (N : Nat) (x : (F10_s N).X) : acall (tabOf Tryz.prog) (F10_g N) F10_an (lam N [(10, F10_l10 N), (12, F10_l12 N)]) Tryz.f10 (F10_s N).S ((F10_s N).args x) ((F10_s N).bs x) = (F10_s N).t x Ret (fun y => some ((F10_s N).ret y)) := by kernel_rfl
theorem F10_pat (N : Nat) (a : List AV) (b : List (List AV)) (x : (F10_s N).X) (h : (F10_s N).pat a b = some x) : a = (F10_s N).args x ∧ b = (F10_s N).bs x := by
  dsimp only [F10_s] at h
  split at h
  · cases h; exact ⟨rfl, rfl⟩
  · cases h
noncomputable def F10_e (N : Nat) : Ent Tryz.prog := entOf (tabOf_ok Tryz.prog) (gam_ok _) mixed 10 Tryz.f10 Tryz.func10 rfl F10_an (lam N [(10, F10_l10 N), (12, F10_l12 N)]) (by
    have e : actOf F10_an (Tryz.f10.body.getD .skip) 0 = [(10, nthLoop 10 (Tryz.f10.body.getD .skip)), (12, nthLoop 12 (Tryz.f10.body.getD .skip))] := by kernel_rfl
    rw [e]
    intro p hp
    rcases List.mem_cons.1 hp with rfl | hp
    · exact F10_loop10 N
    rcases List.mem_cons.1 hp with rfl | hp
    · exact F10_loop12 N
    cases hp) (F10_s N) (fun _ => ⟨rfl, rfl⟩) (F10_text N) (F10_pat N) (F10_parF N)
/-! ### seismonet/seismonetref17.compare (function 45) -/
def F45_an : Nat → Keep × Keep := anL [(12, ⟨[5], [], [], [(0, 1), (1, 1)], [], [], [], [], false⟩, ⟨[4], [], [], [], [], [], [], [], false⟩)]
noncomputable def F45_g (N : Nat) : GamK := gam (P := Tryz.prog) []
noncomputable def F45_l12 (N : Nat) : LSpec where
  X := (List (List AV)) × (List (List AV)) × Int
  Y := (Int) ⊕ (Unit)
  p := fun s => match s.env.length, s.nin, s.at 0, s.at 1, s.at 5 with
    | 41, 0, (AV.list 1 a0 none), (AV.list 1 a1 none), (AV.v (.int .i64 a2)) => some (a0, a1, a2)
    | _, _, _, _, _ => none
  st := fun x => mkS 41 [(0, (AV.list 1 x.1 none)), (1, (AV.list 1 x.2.1 none)), (5, (AV.v (.int .i64 x.2.2)))] [] (F45_an 12).1.toks 0
  out := fun y => match y with
    | .inl y => (.ret, mkS 41 [(4, (AV.v (.int .i64 y)))] [] (F45_an 12).2.toks 0)
    | .inr y => (.exit 0, mkS 41 [] [] (F45_an 12).2.toks 0)
  sp := fun y α k => match y with
    | .inl y => k (.ret, mkS 41 [(4, (AV.v (.int .i64 y)))] [] (F45_an 12).2.toks 0)
    | .inr y => k (.exit 0, mkS 41 [] [] (F45_an 12).2.toks 0)
  spe := fun y α k => by rcases y with _ | _ <;> rfl
  b := fun x α kn ke => (match (decide (x.2.2 ≥ 0)) with | true => (if 0 ≤ x.2.2 then (match x.1[x.2.2.toNat]? with | some c1 => (match c1[0]? with | some x2 => (match x2 with | .v (.int q4 n3) => (if q4 = .i64 then (if 0 ≤ x.2.2 then (match x.2.1[x.2.2.toNat]? with | some c5 => (match c5[0]? with | some x6 => (match x6 with | .v (.int q8 n7) => (if q8 = .i64 then (match (n3 != n7) with | true => (if 0 ≤ x.2.2 then (match x.1[x.2.2.toNat]? with | some c9 => (match c9[0]? with | some x10 => (match x10 with | .v (.int q12 n11) => (if q12 = .i64 then (if 0 ≤ x.2.2 then (match x.2.1[x.2.2.toNat]? with | some c13 => (match c13[0]? with | some x14 => (match x14 with | .v (.int q16 n15) => (if q16 = .i64 then (match (decide (n11 < n15)) with | true => (ke (.inl (-1))) | false => (ke (.inl 1))) else none) | _ => none) | none => none) | none => none) else none) else none) | _ => none) | none => none) | none => none) else none) | false => (kn (x.1, x.2.1, (i64 (x.2.2 - 1))))) else none) | _ => none) | none => none) | none => none) else none) else none) | _ => none) | none => none) | none => none) else none) | false => (ke (.inr ())))
noncomputable abbrev F45_d12 (N : Nat) (x : (List (List AV)) × (List (List AV)) × Int) : Option ((Int) ⊕ (Unit)) := (F45_l12 N).L N x
noncomputable def F45_s (N : Nat) : FSpec where
  X := (List (List AV)) × (List (List AV))
  Y := Int
  ash := [[some 1], [some 1]]
  bsh := []
  S := ⟨[[none]], [], [], [], []⟩
  bm := false
  pat := fun a b => match a, b with
    | [(AV.list 1 a0 none), (AV.list 1 a1 none)], [] => some (a0, a1)
    | _, _ => none
  args := fun x => [(AV.list 1 x.1 none), (AV.list 1 x.2 none)]
  bs := fun x => []
  ret := fun y => ⟨(AV.v (.int .i64 y)), [], none, [], [], []⟩
  t := fun x α k => (match ((x.1.length : Int) != (x.2.length : Int)) with | true => (match (decide ((x.1.length : Int) < (x.2.length : Int))) with | true => (k (-1)) | false => (k 1)) | false => (match F45_d12 N (x.1, x.2, (i64 ((x.1.length : Int) - 1))) with | some y17 => (match y17 with | .inl z18 => (k z18) | .inr z19 => (k 0)) | none => none))
noncomputable abbrev F45_d (N : Nat) (x : (List (List AV)) × (List (List AV))) : Option (Int) := (F45_s N).d x
theorem F45_par12 (N : Nat) : Par (F45_l12 N).b := by
  intro x α β kn ke kn' ke' r r' h h1 h2
  revert h
  dsimp only [F45_l12]
  (repeat' (first | (with_reducible refine par_ite ?_ ?_) | (with_reducible refine par_both ?_ ?_) | split)) <;> intro h <;> first | exact h1 _ h | exact h2 _ h | (cases h; done)
theorem F45_body12 (N : Nat) (x : (F45_l12 N).X) (α : Type) (kn : AS → Option α) (ke : Out → Option α) : around (tabOf Tryz.prog) (F45_g N) F45_an (lam N [(12, F45_l12 N)]) 12 (bodyOf (nthLoop 12 (Tryz.f45.body.getD .skip))) ((F45_l12 N).st x) kn ke = (F45_l12 N).b x α (fun x' => kn ((F45_l12 N).st x')) (fun y => (F45_l12 N).sp y α ke) := by kernel_rfl
theorem F45_pat12 (N : Nat) (s : AS) (x : (F45_l12 N).X) (hc : s = canon (F45_an 12).1 s) (h : (F45_l12 N).p s = some x) : s = (F45_l12 N).st x := by
  dsimp only [F45_l12] at h
  split at h
  · cases h
    exact canon_mk hc ‹_› ‹_› rfl rfl rfl ⟨‹_›, ‹_›, ‹_›, trivial⟩ trivial
  · cases h
theorem F45_loop12 (N : Nat) : ∀ s o, s = canon (F45_an 12).1 s → (lam N [(12, F45_l12 N)]).v 12 s = some o → LoopSem Tryz.prog (nthLoop 12 (Tryz.f45.body.getD .skip)) s o :=
  loop_ok (tabOf_ok Tryz.prog) (gam_ok _) mixed F45_an N [(12, F45_l12 N)] 12 (bodyOf (nthLoop 12 (Tryz.f45.body.getD .skip))) (nthLoop 12 (Tryz.f45.body.getD .skip)) (by kernel_rfl) (by
    have e : actOf F45_an (bodyOf (nthLoop 12 (Tryz.f45.body.getD .skip))) (12 + 1) = [] := by kernel_rfl
    rw [e]
    intro p hp
    cases hp) (F45_l12 N) rfl (fun s x hc h => F45_pat12 N s x hc h) (fun x => rfl) (fun x α kn ke => (F45_body12 N x α kn ke).trans (congrArg ((F45_l12 N).b x α _) (funext fun y => (F45_l12 N).spe y α ke))) (F45_par12 N)
theorem F45_parF (N : Nat) : ParF (F45_s N).t := by
  intro x α β k k' r r' h h1
  revert h
  dsimp only [F45_s]
  (repeat' (first | (with_reducible refine par_ite ?_ ?_) | (with_reducible refine par_both ?_ ?_) | split)) <;> intro h <;> first | exact h1 _ h | (cases h; done)
theorem F45_text (N : Nat) (x : (F45_s N).X) : acall (tabOf Tryz.prog) (F45_g N) F45_an (lam N [(12, F45_l12 N)]) Tryz.f45 (F45_s N).S ((F45_s N).args x) ((F45_s N).bs x) = (F45_s N).t x Ret (fun y => some ((F45_s N).ret y)) := by kernel_rfl
theorem F45_pat (N : Nat) (a : List AV) (b : List (List AV)) (x : (F45_s N).X) (h : (F45_s N).pat a b = some x) : a = (F45_s N).args x ∧ b = (F45_s N).bs x := by
  dsimp only [F45_s] at h
  split at h
  · cases h; exact ⟨rfl, rfl⟩
  · cases h
noncomputable def F45_e (N : Nat) : Ent Tryz.prog := entOf (tabOf_ok Tryz.prog) (gam_ok _) mixed 45 Tryz.f45 Tryz.func45 rfl F45_an (lam N [(12, F45_l12 N)]) (by
    have e : actOf F45_an (Tryz.f45.body.getD .skip) 0 = [(12, nthLoop 12 (Tryz.f45.body.getD .skip))] := by kernel_rfl
    rw [e]
    intro p hp
    rcases List.mem_cons.1 hp with rfl | hp
    · exact F45_loop12 N
    cases hp) (F45_s N) (fun _ => ⟨rfl, rfl⟩) (F45_text N) (F45_pat N) (F45_parF N)
/-! ### seismonet/seismonetref17.trim (function 46) -/
def F46_an : Nat → Keep × Keep := anL [(3, ⟨[], [], [], [(0, 1)], [], [], [], [], false⟩, ⟨[], [], [], [(0, 1)], [], [], [], [], false⟩)]
noncomputable def F46_g (N : Nat) : GamK := gam (P := Tryz.prog) []
noncomputable def F46_l3 (N : Nat) : LSpec where
  X := (List (List AV))
  Y := ((List (List AV)))
  p := fun s => match s.env.length, s.nin, s.at 0 with
    | 21, 0, (AV.list 1 a0 none) => some a0
    | _, _, _ => none
  st := fun x => mkS 21 [(0, (AV.list 1 x none))] [] (F46_an 3).1.toks 0
  out := fun y => (.exit 0, mkS 21 [(0, (AV.list 1 y none))] [] (F46_an 3).2.toks 0)
  sp := fun y α k => k (.exit 0, mkS 21 [(0, (AV.list 1 y none))] [] (F46_an 3).2.toks 0)
  spe := fun y α k => rfl
  b := fun x α kn ke => (match (decide ((x.length : Int) > 0)) with | true => (if 0 ≤ (i64 ((x.length : Int) - 1)) then (match x[(i64 ((x.length : Int) - 1)).toNat]? with | some c1 => (match c1[0]? with | some x2 => (match x2 with | .v (.int q4 n3) => (if q4 = .i64 then (match (n3 == 0) with | true => (if 0 ≤ (i64 ((x.length : Int) - 1)) ∧ (i64 ((x.length : Int) - 1)) ≤ x.length then (kn (x.take (i64 ((x.length : Int) - 1)).toNat)) else none) | false => (ke x)) else none) | _ => none) | none => none) | none => none) else none) | false => (ke x))
noncomputable abbrev F46_d3 (N : Nat) (x : (List (List AV))) : Option (((List (List AV)))) := (F46_l3 N).L N x
noncomputable def F46_s (N : Nat) : FSpec where
  X := (List (List AV))
  Y := (List (List AV))
  ash := [[some 1]]
  bsh := []
  S := ⟨[[some 1]], [], [], [], []⟩
  bm := false
  pat := fun a b => match a, b with
    | [(AV.list 1 a0 none)], [] => some a0
    | _, _ => none
  args := fun x => [(AV.list 1 x none)]
  bs := fun x => []
  ret := fun y => ⟨(AV.list 1 y none), [], none, [], [], []⟩
  t := fun x α k => (match F46_d3 N x with | some y5 => (k y5) | none => none)
noncomputable abbrev F46_d (N : Nat) (x : (List (List AV))) : Option ((List (List AV))) := (F46_s N).d x
theorem F46_par3 (N : Nat) : Par (F46_l3 N).b := by
  intro x α β kn ke kn' ke' r r' h h1 h2
  revert h
  dsimp only [F46_l3]
  (repeat' (first | (with_reducible refine par_ite ?_ ?_) | (with_reducible refine par_both ?_ ?_) | split)) <;> intro h <;> first | exact h1 _ h | exact h2 _ h | (cases h; done)
theorem F46_body3 (N : Nat) (x : (F46_l3 N).X) (α : Type) (kn : AS → Option α) (ke : Out → Option α) : around (tabOf Tryz.prog) (F46_g N) F46_an (lam N [(3, F46_l3 N)]) 3 (bodyOf (nthLoop 3 (Tryz.f46.body.getD .skip))) ((F46_l3 N).st x) kn ke = (F46_l3 N).b x α (fun x' => kn ((F46_l3 N).st x')) (fun y => (F46_l3 N).sp y α ke) := by kernel_rfl
theorem F46_pat3 (N : Nat) (s : AS) (x : (F46_l3 N).X) (hc : s = canon (F46_an 3).1 s) (h : (F46_l3 N).p s = some x) : s = (F46_l3 N).st x := by
  dsimp only [F46_l3] at h
  split at h
  · cases h
    exact canon_mk hc ‹_› ‹_› rfl rfl rfl ⟨‹_›, trivial⟩ trivial
  · cases h
theorem F46_loop3 (N : Nat) : ∀ s o, s = canon (F46_an 3).1 s → (lam N [(3, F46_l3 N)]).v 3 s = some o → LoopSem Tryz.prog (nthLoop 3 (Tryz.f46.body.getD .skip)) s o :=
  loop_ok (tabOf_ok Tryz.prog) (gam_ok _) mixed F46_an N [(3, F46_l3 N)] 3 (bodyOf (nthLoop 3 (Tryz.f46.body.getD .skip))) (nthLoop 3 (Tryz.f46.body.getD .skip)) (by kernel_rfl) (by
    have e : actOf F46_an (bodyOf (nthLoop 3 (Tryz.f46.body.getD .skip))) (3 + 1) = [] := by kernel_rfl
    rw [e]
    intro p hp
    cases hp) (F46_l3 N) rfl (fun s x hc h => F46_pat3 N s x hc h) (fun x => rfl) (fun x α kn ke => (F46_body3 N x α kn ke).trans (congrArg ((F46_l3 N).b x α _) (funext fun y => (F46_l3 N).spe y α ke))) (F46_par3 N)
theorem F46_parF (N : Nat) : ParF (F46_s N).t := by
  intro x α β k k' r r' h h1
  revert h
  dsimp only [F46_s]
  (repeat' (first | (with_reducible refine par_ite ?_ ?_) | (with_reducible refine par_both ?_ ?_) | split)) <;> intro h <;> first | exact h1 _ h | (cases h; done)
theorem F46_text (N : Nat) (x : (F46_s N).X) : acall (tabOf Tryz.prog) (F46_g N) F46_an (lam N [(3, F46_l3 N)]) Tryz.f46 (F46_s N).S ((F46_s N).args x) ((F46_s N).bs x) = (F46_s N).t x Ret (fun y => some ((F46_s N).ret y)) := by kernel_rfl
theorem F46_pat (N : Nat) (a : List AV) (b : List (List AV)) (x : (F46_s N).X) (h : (F46_s N).pat a b = some x) : a = (F46_s N).args x ∧ b = (F46_s N).bs x := by
  dsimp only [F46_s] at h
  split at h
  · cases h; exact ⟨rfl, rfl⟩
  · cases h
noncomputable def F46_e (N : Nat) : Ent Tryz.prog := entOf (tabOf_ok Tryz.prog) (gam_ok _) mixed 46 Tryz.f46 Tryz.func46 rfl F46_an (lam N [(3, F46_l3 N)]) (by
    have e : actOf F46_an (Tryz.f46.body.getD .skip) 0 = [(3, nthLoop 3 (Tryz.f46.body.getD .skip))] := by kernel_rfl
    rw [e]
    intro p hp
    rcases List.mem_cons.1 hp with rfl | hp
    · exact F46_loop3 N
    cases hp) (F46_s N) (fun _ => ⟨rfl, rfl⟩) (F46_text N) (F46_pat N) (F46_parF N)
/-! ### seismonet/seismonetref17.Sub (function 12) -/
def F12_an : Nat → Keep × Keep := anL [(14, ⟨[7, 8], [(6, 1)], [], [(0, 1), (1, 1)], [], [], [], [], false⟩, ⟨[], [(6, 1)], [], [], [], [], [], [], false⟩)]
noncomputable def F12_g (N : Nat) : GamK := gam (P := Tryz.prog) [F26_e N, F45_e N, F46_e N]
noncomputable def F12_l14 (N : Nat) : LSpec where
  X := (List (List AV)) × (List (List AV)) × (List (List AV)) × Int × Int
  Y := ((List (List AV)))
  p := fun s => match s.env.length, s.nin, s.at 6, s.at 0, s.at 1, s.at 7, s.at 8 with
    | 54, 0, (AV.list 1 a0 (some 1280000384)), (AV.list 1 a1 none), (AV.list 1 a2 none), (AV.v (.int .i64 a3)), (AV.v (.int .i64 a4)) => some (a0, a1, a2, a3, a4)
    | _, _, _, _, _, _, _ => none
  st := fun x => mkS 54 [(6, (AV.list 1 x.1 (some 1280000384))), (0, (AV.list 1 x.2.1 none)), (1, (AV.list 1 x.2.2.1 none)), (7, (AV.v (.int .i64 x.2.2.2.1))), (8, (AV.v (.int .i64 x.2.2.2.2)))] [] (F12_an 14).1.toks 0
  out := fun y => (.exit 0, mkS 54 [(6, (AV.list 1 y (some 1280000384)))] [] (F12_an 14).2.toks 0)
  sp := fun y α k => k (.exit 0, mkS 54 [(6, (AV.list 1 y (some 1280000384)))] [] (F12_an 14).2.toks 0)
  spe := fun y α k => rfl
  b := fun x α kn ke => (match (decide (x.2.2.2.2 < (x.2.1.length : Int))) with | true => (if 0 ≤ x.2.2.2.2 then (match x.2.1[x.2.2.2.2.toNat]? with | some c4 => (match c4[0]? with | some x5 => (match x5 with | .v (.int q7 n6) => (if q7 = .i64 then (match (decide (x.2.2.2.2 < (x.2.2.1.length : Int))) with | true => (if 0 ≤ x.2.2.2.2 then (match x.2.2.1[x.2.2.2.2.toNat]? with | some c8 => (match c8[0]? with | some x9 => (match x9 with | .v (.int q11 n10) => (if q11 = .i64 then (match (decide ((i64 ((i64 (n6 - x.2.2.2.1)) - n10)) < 0)) with | true => (if (x.1.length + [[(AV.v (.int .i64 (i64 ((i64 ((i64 (n6 - x.2.2.2.1)) - n10)) + 1073741824))))]].length) * 8 ≤ maxBytes then (kn ((x.1 ++ [[(AV.v (.int .i64 (i64 ((i64 ((i64 (n6 - x.2.2.2.1)) - n10)) + 1073741824))))]]), x.2.1, x.2.2.1, 1, (i64 (x.2.2.2.2 + 1)))) else none) | false => (if (x.1.length + [[(AV.v (.int .i64 (i64 ((i64 (n6 - x.2.2.2.1)) - n10))))]].length) * 8 ≤ maxBytes then (kn ((x.1 ++ [[(AV.v (.int .i64 (i64 ((i64 (n6 - x.2.2.2.1)) - n10))))]]), x.2.1, x.2.2.1, 0, (i64 (x.2.2.2.2 + 1)))) else none)) else none) | _ => none) | none => none) | none => none) else none) | false => (match (decide ((i64 (n6 - x.2.2.2.1)) < 0)) with | true => (if (x.1.length + [[(AV.v (.int .i64 (i64 ((i64 (n6 - x.2.2.2.1)) + 1073741824))))]].length) * 8 ≤ maxBytes then (kn ((x.1 ++ [[(AV.v (.int .i64 (i64 ((i64 (n6 - x.2.2.2.1)) + 1073741824))))]]), x.2.1, x.2.2.1, 1, (i64 (x.2.2.2.2 + 1)))) else none) | false => (if (x.1.length + [[(AV.v (.int .i64 (i64 (n6 - x.2.2.2.1))))]].length) * 8 ≤ maxBytes then (kn ((x.1 ++ [[(AV.v (.int .i64 (i64 (n6 - x.2.2.2.1))))]]), x.2.1, x.2.2.1, 0, (i64 (x.2.2.2.2 + 1)))) else none))) else none) | _ => none) | none => none) | none => none) else none) | false => (ke x.1))
noncomputable abbrev F12_d14 (N : Nat) (x : (List (List AV)) × (List (List AV)) × (List (List AV)) × Int × Int) : Option (((List (List AV)))) := (F12_l14 N).L N x
noncomputable def F12_s (N : Nat) : FSpec where
  X := (List (List AV)) × (List (List AV))
  Y := (List (List AV)) × Int
  ash := [[some 1], [some 1]]
  bsh := []
  S := ⟨[[some 1], [none]], [], [], [], []⟩
  bm := false
  pat := fun a b => match a, b with
    | [(AV.list 1 a0 none), (AV.list 1 a1 none)], [] => some (a0, a1)
    | _, _ => none
  args := fun x => [(AV.list 1 x.1 none), (AV.list 1 x.2 none)]
  bs := fun x => []
  ret := fun y => ⟨(AV.tup [(AV.list 1 y.1 none), (AV.v (.int .i64 y.2))]), [], none, [], [], []⟩
  t := fun x α k => (match F26_d N x.1 with | some y1 => (match (!y1) with | true => (k (([] : List (List AV)), 1)) | false => (match F26_d N x.2 with | some y2 => (match (!y2) with | true => (k (([] : List (List AV)), 1)) | false => (match F45_d N (x.1, x.2) with | some y3 => (match (decide (y3 < 0)) with | true => (k (([] : List (List AV)), 2)) | false => (match F12_d14 N (([] : List (List AV)), x.1, x.2, 0, 0) with | some y12 => (match F46_d N y12 with | some y13 => (k (y13, 0)) | none => none) | none => none)) | none => none)) | none => none)) | none => none)
noncomputable abbrev F12_d (N : Nat) (x : (List (List AV)) × (List (List AV))) : Option ((List (List AV)) × Int) := (F12_s N).d x
theorem F12_par14 (N : Nat) : Par (F12_l14 N).b := by
  intro x α β kn ke kn' ke' r r' h h1 h2
  revert h
  dsimp only [F12_l14]
  (repeat' (first | (with_reducible refine par_ite ?_ ?_) | (with_reducible refine par_both ?_ ?_) | split)) <;> intro h <;> first | exact h1 _ h | exact h2 _ h | (cases h; done)
theorem F12_body14 (N : Nat) (x : (F12_l14 N).X) (α : Type) (kn : AS → Option α) (ke : Out → Option α) : around (tabOf Tryz.prog) (F12_g N) F12_an (lam N [(14, F12_l14 N)]) 14 (bodyOf (nthLoop 14 (Tryz.f12.body.getD .skip))) ((F12_l14 N).st x) kn ke = (F12_l14 N).b x α (fun x' => kn ((F12_l14 N).st x')) (fun y => (F12_l14 N).sp y α ke) := by kernel_rfl
theorem F12_pat14 (N : Nat) (s : AS) (x : (F12_l14 N).X) (hc : s = canon (F12_an 14).1 s) (h : (F12_l14 N).p s = some x) : s = (F12_l14 N).st x := by
  dsimp only [F12_l14] at h
  split at h
  · cases h
    exact canon_mk hc ‹_› ‹_› rfl rfl rfl ⟨‹_›, ‹_›, ‹_›, ‹_›, ‹_›, trivial⟩ trivial
  · cases h
theorem F12_loop14 (N : Nat) : ∀ s o, s = canon (F12_an 14).1 s → (lam N [(14, F12_l14 N)]).v 14 s = some o → LoopSem Tryz.prog (nthLoop 14 (Tryz.f12.body.getD .skip)) s o :=
  loop_ok (tabOf_ok Tryz.prog) (gam_ok _) mixed F12_an N [(14, F12_l14 N)] 14 (bodyOf (nthLoop 14 (Tryz.f12.body.getD .skip))) (nthLoop 14 (Tryz.f12.body.getD .skip)) (by kernel_rfl) (by
    have e : actOf F12_an (bodyOf (nthLoop 14 (Tryz.f12.body.getD .skip))) (14 + 1) = [] := by kernel_rfl
    rw [e]
    intro p hp
    cases hp) (F12_l14 N) rfl (fun s x hc h => F12_pat14 N s x hc h) (fun x => rfl) (fun x α kn ke => (F12_body14 N x α kn ke).trans (congrArg ((F12_l14 N).b x α _) (funext fun y => (F12_l14 N).spe y α ke))) (F12_par14 N)
theorem F12_parF (N : Nat) : ParF (F12_s N).t := by
  intro x α β k k' r r' h h1
  revert h
  dsimp only [F12_s]
  (repeat' (first | (with_reducible refine par_ite ?_ ?_) | (with_reducible refine par_both ?_ ?_) | split)) <;> intro h <;> first | exact h1 _ h | (cases h; done)
theorem F12_text (N : Nat) (x : (F12_s N).X) : acall (tabOf Tryz.prog) (F12_g N) F12_an (lam N [(14, F12_l14 N)]) Tryz.f12 (F12_s N).S ((F12_s N).args x) ((F12_s N).bs x) = (F12_s N).t x Ret (fun y => some ((F12_s N).ret y)) := by kernel_rfl
theorem F12_pat (N : Nat) (a : List AV) (b : List (List AV)) (x : (F12_s N).X) (h : (F12_s N).pat a b = some x) : a = (F12_s N).args x ∧ b = (F12_s N).bs x := by
  dsimp only [F12_s] at h
  split at h
  · cases h; exact ⟨rfl, rfl⟩
  · cases h
noncomputable def F12_e (N : Nat) : Ent Tryz.prog := entOf (tabOf_ok Tryz.prog) (gam_ok _) mixed 12 Tryz.f12 Tryz.func12 rfl F12_an (lam N [(14, F12_l14 N)]) (by
    have e : actOf F12_an (Tryz.f12.body.getD .skip) 0 = [(14, nthLoop 14 (Tryz.f12.body.getD .skip))] := by kernel_rfl
    rw [e]
    intro p hp
    rcases List.mem_cons.1 hp with rfl | hp
    · exact F12_loop14 N
    cases hp) (F12_s N) (fun _ => ⟨rfl, rfl⟩) (F12_text N) (F12_pat N) (F12_parF N)
/-! ### seismonet/seismonetref17.mul (function 48) -/
def F48_an : Nat → Keep × Keep := anF [(5, ⟨[5, 6], [], [14], [(0, 1), (1, 1)], [], [], [], [14], false⟩, ⟨[5], [], [14], [], [], [], [], [14], false⟩), (14, ⟨[5, 6, 7, 8], [], [14], [(0, 1), (1, 1)], [], [], [], [14], false⟩, ⟨[5, 6], [], [14], [(0, 1), (1, 1)], [], [], [], [14], false⟩)] [(100014, ([5], []))]
noncomputable def F48_g (N : Nat) : GamK := gam (P := Tryz.prog) [F46_e N]
noncomputable def F48_l14 (N : Nat) : LSpec where
  X := (List (List AV)) × (List (List AV)) × Nat × Int × Int × Int × (List AV)
  Y := ((List (List AV)) × (List (List AV)) × Nat × Int × (List AV))
  p := fun s => match s.env.length, s.nin, s.at 0, s.at 1, s.at 5, s.at 6, s.at 7, s.at 8, s.bx 14 with
    | 65, 0, (AV.list 1 a0 none), (AV.list 1 a1 none), (AV.vs 14 0 a2 1), (AV.v (.int .i64 a3)), (AV.v (.int .i64 a4)), (AV.v (.int .i64 a5)), some a6 => some (a0, a1, a2, a3, a4, a5, a6)
    | _, _, _, _, _, _, _, _, _ => none
  st := fun x => mkS 65 [(0, (AV.list 1 x.1 none)), (1, (AV.list 1 x.2.1 none)), (5, (AV.vs 14 0 x.2.2.1 1)), (6, (AV.v (.int .i64 x.2.2.2.1))), (7, (AV.v (.int .i64 x.2.2.2.2.1))), (8, (AV.v (.int .i64 x.2.2.2.2.2.1)))] [(14, x.2.2.2.2.2.2)] (F48_an 14).1.toks 0
  out := fun y => (.exit 2, mkS 65 [(0, (AV.list 1 y.1 none)), (1, (AV.list 1 y.2.1 none)), (5, (AV.vs 14 0 y.2.2.1 1)), (6, (AV.v (.int .i64 y.2.2.2.1)))] [(14, y.2.2.2.2)] (F48_an 14).2.toks 0)
  sp := fun y α k => k (.exit 2, mkS 65 [(0, (AV.list 1 y.1 none)), (1, (AV.list 1 y.2.1 none)), (5, (AV.vs 14 0 y.2.2.1 1)), (6, (AV.v (.int .i64 y.2.2.2.1)))] [(14, y.2.2.2.2)] (F48_an 14).2.toks 0)
  spe := fun y α k => rfl
  b := fun x α kn ke => (match (decide (x.2.2.2.2.2.1 < (x.2.1.length : Int))) with | true => (if 0 ≤ (i64 (x.2.2.2.1 + x.2.2.2.2.2.1)) ∧ (i64 (x.2.2.2.1 + x.2.2.2.2.2.1)) < (x.2.2.1 : Int) then (match x.2.2.2.2.2.2[((0 + (i64 (x.2.2.2.1 + x.2.2.2.2.2.1)).toNat) * 1)]? with | some x23 => (match x23 with | .v (.int q25 n24) => (if q25 = .i64 then (match (decide (x.2.2.2.2.2.1 < (x.2.1.length : Int))) with | true => (if 0 ≤ x.2.2.2.1 then (match x.1[x.2.2.2.1.toNat]? with | some c26 => (match c26[0]? with | some x27 => (match x27 with | .v (.int q29 n28) => (if q29 = .i64 then (if 0 ≤ x.2.2.2.2.2.1 then (match x.2.1[x.2.2.2.2.2.1.toNat]? with | some c30 => (match c30[0]? with | some x31 => (match x31 with | .v (.int q33 n32) => (if q33 = .i64 then (if 0 ≤ (i64 (x.2.2.2.1 + x.2.2.2.2.2.1)) ∧ (i64 (x.2.2.2.1 + x.2.2.2.2.2.1)) < (x.2.2.1 : Int) then (if ((0 + (i64 (x.2.2.2.1 + x.2.2.2.2.2.1)).toNat) * 1) + 1 ≤ x.2.2.2.2.2.2.length then (kn (x.1, x.2.1, x.2.2.1, x.2.2.2.1, (i64 ((i64 ((i64 (x.2.2.2.2.1 + n24)) + (i64 (n28 * n32)))).tdiv 1073741824)), (i64 (x.2.2.2.2.2.1 + 1)), ((x.2.2.2.2.2.2.set (((0 + (i64 (x.2.2.2.1 + x.2.2.2.2.2.1)).toNat) * 1)) (AV.v (.int .i64 ((i64 ((i64 (x.2.2.2.2.1 + n24)) + (i64 (n28 * n32)))).tmod 1073741824)))).map dat0))) else none) else none) else none) | _ => none) | none => none) | none => none) else none) else none) | _ => none) | none => none) | none => none) else none) | false => (if 0 ≤ (i64 (x.2.2.2.1 + x.2.2.2.2.2.1)) ∧ (i64 (x.2.2.2.1 + x.2.2.2.2.2.1)) < (x.2.2.1 : Int) then (if ((0 + (i64 (x.2.2.2.1 + x.2.2.2.2.2.1)).toNat) * 1) + 1 ≤ x.2.2.2.2.2.2.length then (kn (x.1, x.2.1, x.2.2.1, x.2.2.2.1, (i64 ((i64 (x.2.2.2.2.1 + n24)).tdiv 1073741824)), (i64 (x.2.2.2.2.2.1 + 1)), ((x.2.2.2.2.2.2.set (((0 + (i64 (x.2.2.2.1 + x.2.2.2.2.2.1)).toNat) * 1)) (AV.v (.int .i64 ((i64 (x.2.2.2.2.1 + n24)).tmod 1073741824)))).map dat0))) else none) else none)) else none) | _ => none) | none => none) else none) | false => (match (decide (x.2.2.2.2.1 > 0)) with | true => (if 0 ≤ (i64 (x.2.2.2.1 + x.2.2.2.2.2.1)) ∧ (i64 (x.2.2.2.1 + x.2.2.2.2.2.1)) < (x.2.2.1 : Int) then (match x.2.2.2.2.2.2[((0 + (i64 (x.2.2.2.1 + x.2.2.2.2.2.1)).toNat) * 1)]? with | some x34 => (match x34 with | .v (.int q36 n35) => (if q36 = .i64 then (match (decide (x.2.2.2.2.2.1 < (x.2.1.length : Int))) with | true => (if 0 ≤ x.2.2.2.1 then (match x.1[x.2.2.2.1.toNat]? with | some c37 => (match c37[0]? with | some x38 => (match x38 with | .v (.int q40 n39) => (if q40 = .i64 then (if 0 ≤ x.2.2.2.2.2.1 then (match x.2.1[x.2.2.2.2.2.1.toNat]? with | some c41 => (match c41[0]? with | some x42 => (match x42 with | .v (.int q44 n43) => (if q44 = .i64 then (if 0 ≤ (i64 (x.2.2.2.1 + x.2.2.2.2.2.1)) ∧ (i64 (x.2.2.2.1 + x.2.2.2.2.2.1)) < (x.2.2.1 : Int) then (if ((0 + (i64 (x.2.2.2.1 + x.2.2.2.2.2.1)).toNat) * 1) + 1 ≤ x.2.2.2.2.2.2.length then (kn (x.1, x.2.1, x.2.2.1, x.2.2.2.1, (i64 ((i64 ((i64 (x.2.2.2.2.1 + n35)) + (i64 (n39 * n43)))).tdiv 1073741824)), (i64 (x.2.2.2.2.2.1 + 1)), ((x.2.2.2.2.2.2.set (((0 + (i64 (x.2.2.2.1 + x.2.2.2.2.2.1)).toNat) * 1)) (AV.v (.int .i64 ((i64 ((i64 (x.2.2.2.2.1 + n35)) + (i64 (n39 * n43)))).tmod 1073741824)))).map dat0))) else none) else none) else none) | _ => none) | none => none) | none => none) else none) else none) | _ => none) | none => none) | none => none) else none) | false => (if 0 ≤ (i64 (x.2.2.2.1 + x.2.2.2.2.2.1)) ∧ (i64 (x.2.2.2.1 + x.2.2.2.2.2.1)) < (x.2.2.1 : Int) then (if ((0 + (i64 (x.2.2.2.1 + x.2.2.2.2.2.1)).toNat) * 1) + 1 ≤ x.2.2.2.2.2.2.length then (kn (x.1, x.2.1, x.2.2.1, x.2.2.2.1, (i64 ((i64 (x.2.2.2.2.1 + n35)).tdiv 1073741824)), (i64 (x.2.2.2.2.2.1 + 1)), ((x.2.2.2.2.2.2.set (((0 + (i64 (x.2.2.2.1 + x.2.2.2.2.2.1)).toNat) * 1)) (AV.v (.int .i64 ((i64 (x.2.2.2.2.1 + n35)).tmod 1073741824)))).map dat0))) else none) else none)) else none) | _ => none) | none => none) else none) | false => (ke (x.1, x.2.1, x.2.2.1, x.2.2.2.1, (x.2.2.2.2.2.2.map dat0)))))
noncomputable abbrev F48_d14 (N : Nat) (x : (List (List AV)) × (List (List AV)) × Nat × Int × Int × Int × (List AV)) : Option (((List (List AV)) × (List (List AV)) × Nat × Int × (List AV))) := (F48_l14 N).L N x
noncomputable def F48_l5 (N : Nat) : LSpec where
  X := (List (List AV)) × (List (List AV)) × Nat × Int × (List AV)
  Y := (Nat × (List AV))
  p := fun s => match s.env.length, s.nin, s.at 0, s.at 1, s.at 5, s.at 6, s.bx 14 with
    | 65, 0, (AV.list 1 a0 none), (AV.list 1 a1 none), (AV.vs 14 0 a2 1), (AV.v (.int .i64 a3)), some a4 => some (a0, a1, a2, a3, a4)
    | _, _, _, _, _, _, _ => none
  st := fun x => mkS 65 [(0, (AV.list 1 x.1 none)), (1, (AV.list 1 x.2.1 none)), (5, (AV.vs 14 0 x.2.2.1 1)), (6, (AV.v (.int .i64 x.2.2.2.1)))] [(14, x.2.2.2.2)] (F48_an 5).1.toks 0
  out := fun y => (.exit 0, mkS 65 [(5, (AV.vs 14 0 y.1 1))] [(14, y.2)] (F48_an 5).2.toks 0)
  sp := fun y α k => k (.exit 0, mkS 65 [(5, (AV.vs 14 0 y.1 1))] [(14, y.2)] (F48_an 5).2.toks 0)
  spe := fun y α k => rfl
  b := fun x α kn ke => (match (decide (x.2.2.2.1 < (x.1.length : Int))) with | true => (match F48_d14 N (x.1, x.2.1, x.2.2.1, x.2.2.2.1, 0, 0, (x.2.2.2.2.map dat0)) with | some y46 => (kn (y46.1, y46.2.1, y46.2.2.1, (i64 (y46.2.2.2.1 + 1)), (y46.2.2.2.2.map dat0))) | none => none) | false => (ke (x.2.2.1, (x.2.2.2.2.map dat0))))
noncomputable abbrev F48_d5 (N : Nat) (x : (List (List AV)) × (List (List AV)) × Nat × Int × (List AV)) : Option ((Nat × (List AV))) := (F48_l5 N).L N x
noncomputable def F48_s (N : Nat) : FSpec where
  X := (List (List AV)) × (List (List AV))
  Y := (List (List AV))
  ash := [[some 1], [some 1]]
  bsh := []
  S := ⟨[[some 1]], [], [], [], []⟩
  bm := false
  pat := fun a b => match a, b with
    | [(AV.list 1 a0 none), (AV.list 1 a1 none)], [] => some (a0, a1)
    | _, _ => none
  args := fun x => [(AV.list 1 x.1 none), (AV.list 1 x.2 none)]
  bs := fun x => []
  ret := fun y => ⟨(AV.list 1 y none), [], none, [], [], []⟩
  t := fun x α k => (if 0 ≤ (i64 ((x.1.length : Int) + (x.2.length : Int))) ∧ (i64 ((x.1.length : Int) + (x.2.length : Int))) ≤ (i64 ((x.1.length : Int) + (x.2.length : Int))) ∧ (i64 ((x.1.length : Int) + (x.2.length : Int))).toNat * 8 ≤ maxBytes then (match F48_d5 N (x.1, x.2, ((i64 ((x.1.length : Int) + (x.2.length : Int))).toNat), 0, ((List.replicate (i64 ((x.1.length : Int) + (x.2.length : Int))).toNat (AV.v (.int .i64 0))).map dat0)) with | some y47 => (if y47.1 * 1 ≤ y47.2.length then (match F46_d N (chunks (y47.2.take (y47.1 * 1)) 1 y47.1) with | some y48 => (k y48) | none => none) else none) | none => none) else none)
noncomputable abbrev F48_d (N : Nat) (x : (List (List AV)) × (List (List AV))) : Option ((List (List AV))) := (F48_s N).d x
theorem F48_par14 (N : Nat) : Par (F48_l14 N).b := by
  intro x α β kn ke kn' ke' r r' h h1 h2
  revert h
  dsimp only [F48_l14]
  (repeat' (first | (with_reducible refine par_ite ?_ ?_) | (with_reducible refine par_both ?_ ?_) | split)) <;> intro h <;> first | exact h1 _ h | exact h2 _ h | (cases h; done)
theorem F48_body14 (N : Nat) (x : (F48_l14 N).X) (α : Type) (kn : AS → Option α) (ke : Out → Option α) : around (tabOf Tryz.prog) (F48_g N) F48_an (lam N [(5, F48_l5 N), (14, F48_l14 N)]) 14 (bodyOf (nthLoop 14 (Tryz.f48.body.getD .skip))) ((F48_l14 N).st x) kn ke = (F48_l14 N).b x α (fun x' => kn ((F48_l14 N).st x')) (fun y => (F48_l14 N).sp y α ke) := by kernel_rfl
theorem F48_pat14 (N : Nat) (s : AS) (x : (F48_l14 N).X) (hc : s = canon (F48_an 14).1 s) (h : (F48_l14 N).p s = some x) : s = (F48_l14 N).st x := by
  dsimp only [F48_l14] at h
  split at h
  · cases h
    exact canon_mk hc ‹_› ‹_› rfl rfl rfl ⟨‹_›, ‹_›, ‹_›, ‹_›, ‹_›, ‹_›, trivial⟩ ⟨‹_›, trivial⟩
  · cases h
theorem F48_loop14 (N : Nat) : ∀ s o, s = canon (F48_an 14).1 s → (lam N [(5, F48_l5 N), (14, F48_l14 N)]).v 14 s = some o → LoopSem Tryz.prog (nthLoop 14 (Tryz.f48.body.getD .skip)) s o :=
  loop_ok (tabOf_ok Tryz.prog) (gam_ok _) mixed F48_an N [(5, F48_l5 N), (14, F48_l14 N)] 14 (bodyOf (nthLoop 14 (Tryz.f48.body.getD .skip))) (nthLoop 14 (Tryz.f48.body.getD .skip)) (by kernel_rfl) (by
    have e : actOf F48_an (bodyOf (nthLoop 14 (Tryz.f48.body.getD .skip))) (14 + 1) = [] := by kernel_rfl
    rw [e]
    intro p hp
    cases hp) (F48_l14 N) rfl (fun s x hc h => F48_pat14 N s x hc h) (fun x => rfl) (fun x α kn ke => (F48_body14 N x α kn ke).trans (congrArg ((F48_l14 N).b x α _) (funext fun y => (F48_l14 N).spe y α ke))) (F48_par14 N)
theorem F48_par5 (N : Nat) : Par (F48_l5 N).b := by
  intro x α β kn ke kn' ke' r r' h h1 h2
  revert h
  dsimp only [F48_l5]
  (repeat' (first | (with_reducible refine par_ite ?_ ?_) | (with_reducible refine par_both ?_ ?_) | split)) <;> intro h <;> first | exact h1 _ h | exact h2 _ h | (cases h; done)
theorem F48_body5 (N : Nat) (x : (F48_l5 N).X) (α : Type) (kn : AS → Option α) (ke : Out → Option α) : around (tabOf Tryz.prog) (F48_g N) F48_an (lam N [(5, F48_l5 N), (14, F48_l14 N)]) 5 (bodyOf (nthLoop 5 (Tryz.f48.body.getD .skip))) ((F48_l5 N).st x) kn ke = (F48_l5 N).b x α (fun x' => kn ((F48_l5 N).st x')) (fun y => (F48_l5 N).sp y α ke) := by kernel_rfl
theorem F48_pat5 (N : Nat) (s : AS) (x : (F48_l5 N).X) (hc : s = canon (F48_an 5).1 s) (h : (F48_l5 N).p s = some x) : s = (F48_l5 N).st x := by
  dsimp only [F48_l5] at h
  split at h
  · cases h
    exact canon_mk hc ‹_› ‹_› rfl rfl rfl ⟨‹_›, ‹_›, ‹_›, ‹_›, trivial⟩ ⟨‹_›, trivial⟩
  · cases h
theorem F48_loop5 (N : Nat) : ∀ s o, s = canon (F48_an 5).1 s → (lam N [(5, F48_l5 N), (14, F48_l14 N)]).v 5 s = some o → LoopSem Tryz.prog (nthLoop 5 (Tryz.f48.body.getD .skip)) s o :=
  loop_ok (tabOf_ok Tryz.prog) (gam_ok _) mixed F48_an N [(5, F48_l5 N), (14, F48_l14 N)] 5 (bodyOf (nthLoop 5 (Tryz.f48.body.getD .skip))) (nthLoop 5 (Tryz.f48.body.getD .skip)) (by kernel_rfl) (by
    have e : actOf F48_an (bodyOf (nthLoop 5 (Tryz.f48.body.getD .skip))) (5 + 1) = [(14, nthLoop 14 (Tryz.f48.body.getD .skip))] := by kernel_rfl
    rw [e]
    intro p hp
    rcases List.mem_cons.1 hp with rfl | hp
    · exact F48_loop14 N
    cases hp) (F48_l5 N) rfl (fun s x hc h => F48_pat5 N s x hc h) (fun x => rfl) (fun x α kn ke => (F48_body5 N x α kn ke).trans (congrArg ((F48_l5 N).b x α _) (funext fun y => (F48_l5 N).spe y α ke))) (F48_par5 N)
theorem F48_parF (N : Nat) : ParF (F48_s N).t := by
  intro x α β k k' r r' h h1
  revert h
  dsimp only [F48_s]
  (repeat' (first | (with_reducible refine par_ite ?_ ?_) | (with_reducible refine par_both ?_ ?_) | split)) <;> intro h <;> first | exact h1 _ h | (cases h; done)
theorem F48_text (N : Nat) (x : (F48_s N).X) : acall (tabOf Tryz.prog) (F48_g N) F48_an (lam N [(5, F48_l5 N), (14, F48_l14 N)]) Tryz.f48 (F48_s N).S ((F48_s N).args x) ((F48_s N).bs x) = (F48_s N).t x Ret (fun y => some ((F48_s N).ret y)) := by kernel_rfl
theorem F48_pat (N : Nat) (a : List AV) (b : List (List AV)) (x : (F48_s N).X) (h : (F48_s N).pat a b = some x) : a = (F48_s N).args x ∧ b = (F48_s N).bs x := by
  dsimp only [F48_s] at h
  split at h
  · cases h; exact ⟨rfl, rfl⟩
  · cases h
noncomputable def F48_e (N : Nat) : Ent Tryz.prog := entOf (tabOf_ok Tryz.prog) (gam_ok _) mixed 48 Tryz.f48 Tryz.func48 rfl F48_an (lam N [(5, F48_l5 N), (14, F48_l14 N)]) (by
    have e : actOf F48_an (Tryz.f48.body.getD .skip) 0 = [(5, nthLoop 5 (Tryz.f48.body.getD .skip)), (14, nthLoop 14 (Tryz.f48.body.getD .skip))] := by kernel_rfl
    rw [e]
    intro p hp
    rcases List.mem_cons.1 hp with rfl | hp
    · exact F48_loop5 N
    rcases List.mem_cons.1 hp with rfl | hp
    · exact F48_loop14 N
    cases hp) (F48_s N) (fun _ => ⟨rfl, rfl⟩) (F48_text N) (F48_pat N) (F48_parF N)
/-! ### seismonet/seismonetref17.Mul (function 14) -/
def F14_an : Nat → Keep × Keep := anL []
noncomputable def F14_g (N : Nat) : GamK := gam (P := Tryz.prog) [F26_e N, F48_e N, F43_e N]
noncomputable def F14_s (N : Nat) : FSpec where
  X := (List (List AV)) × (List (List AV))
  Y := (List (List AV)) × Int
  ash := [[some 1], [some 1]]
  bsh := []
  S := ⟨[[some 1], [none]], [], [], [], []⟩
  bm := false
  pat := fun a b => match a, b with
    | [(AV.list 1 a0 none), (AV.list 1 a1 none)], [] => some (a0, a1)
    | _, _ => none
  args := fun x => [(AV.list 1 x.1 none), (AV.list 1 x.2 none)]
  bs := fun x => []
  ret := fun y => ⟨(AV.tup [(AV.list 1 y.1 none), (AV.v (.int .i64 y.2))]), [], none, [], [], []⟩
  t := fun x α k => (match F26_d N x.1 with | some y1 => (match (!y1) with | true => (k (([] : List (List AV)), 1)) | false => (match F26_d N x.2 with | some y2 => (match (!y2) with | true => (k (([] : List (List AV)), 1)) | false => (match F48_d N (x.1, x.2) with | some y3 => (match F43_d N y3 with | some y4 => (k (y4.1, y4.2)) | none => none) | none => none)) | none => none)) | none => none)
noncomputable abbrev F14_d (N : Nat) (x : (List (List AV)) × (List (List AV))) : Option ((List (List AV)) × Int) := (F14_s N).d x
theorem F14_parF (N : Nat) : ParF (F14_s N).t := by
  intro x α β k k' r r' h h1
  revert h
  dsimp only [F14_s]
  (repeat' (first | (with_reducible refine par_ite ?_ ?_) | (with_reducible refine par_both ?_ ?_) | split)) <;> intro h <;> first | exact h1 _ h | (cases h; done)
theorem F14_text (N : Nat) (x : (F14_s N).X) : acall (tabOf Tryz.prog) (F14_g N) F14_an (lam N []) Tryz.f14 (F14_s N).S ((F14_s N).args x) ((F14_s N).bs x) = (F14_s N).t x Ret (fun y => some ((F14_s N).ret y)) := by kernel_rfl
theorem F14_pat (N : Nat) (a : List AV) (b : List (List AV)) (x : (F14_s N).X) (h : (F14_s N).pat a b = some x) : a = (F14_s N).args x ∧ b = (F14_s N).bs x := by
  dsimp only [F14_s] at h
  split at h
  · cases h; exact ⟨rfl, rfl⟩
  · cases h
noncomputable def F14_e (N : Nat) : Ent Tryz.prog := entOf (tabOf_ok Tryz.prog) (gam_ok _) mixed 14 Tryz.f14 Tryz.func14 rfl F14_an (lam N []) (by
    have e : actOf F14_an (Tryz.f14.body.getD .skip) 0 = [] := by kernel_rfl
    rw [e]
    intro p hp
    cases hp) (F14_s N) (fun _ => ⟨rfl, rfl⟩) (F14_text N) (F14_pat N) (F14_parF N)
/-! ### seismonet/seismonetref17.Compare (function 17) -/
def F17_an : Nat → Keep × Keep := anL []
noncomputable def F17_g (N : Nat) : GamK := gam (P := Tryz.prog) [F26_e N, F45_e N]
noncomputable def F17_s (N : Nat) : FSpec where
  X := (List (List AV)) × (List (List AV))
  Y := Int
  ash := [[some 1], [some 1]]
  bsh := []
  S := ⟨[[none]], [], [], [], []⟩
  bm := false
  pat := fun a b => match a, b with
    | [(AV.list 1 a0 none), (AV.list 1 a1 none)], [] => some (a0, a1)
    | _, _ => none
  args := fun x => [(AV.list 1 x.1 none), (AV.list 1 x.2 none)]
  bs := fun x => []
  ret := fun y => ⟨(AV.v (.int .i64 y)), [], none, [], [], []⟩
  t := fun x α k => (match F26_d N x.1 with | some y1 => (match (!y1) with | true => (k 0) | false => (match F26_d N x.2 with | some y2 => (match (!y2) with | true => (k 0) | false => (match F45_d N (x.1, x.2) with | some y3 => (k y3) | none => none)) | none => none)) | none => none)
noncomputable abbrev F17_d (N : Nat) (x : (List (List AV)) × (List (List AV))) : Option (Int) := (F17_s N).d x
theorem F17_parF (N : Nat) : ParF (F17_s N).t := by
  intro x α β k k' r r' h h1
  revert h
  dsimp only [F17_s]
  (repeat' (first | (with_reducible refine par_ite ?_ ?_) | (with_reducible refine par_both ?_ ?_) | split)) <;> intro h <;> first | exact h1 _ h | (cases h; done)
theorem F17_text (N : Nat) (x : (F17_s N).X) : acall (tabOf Tryz.prog) (F17_g N) F17_an (lam N []) Tryz.f17 (F17_s N).S ((F17_s N).args x) ((F17_s N).bs x) = (F17_s N).t x Ret (fun y => some ((F17_s N).ret y)) := by kernel_rfl
theorem F17_pat (N : Nat) (a : List AV) (b : List (List AV)) (x : (F17_s N).X) (h : (F17_s N).pat a b = some x) : a = (F17_s N).args x ∧ b = (F17_s N).bs x := by
  dsimp only [F17_s] at h
  split at h
  · cases h; exact ⟨rfl, rfl⟩
  · cases h
noncomputable def F17_e (N : Nat) : Ent Tryz.prog := entOf (tabOf_ok Tryz.prog) (gam_ok _) mixed 17 Tryz.f17 Tryz.func17 rfl F17_an (lam N []) (by
    have e : actOf F17_an (Tryz.f17.body.getD .skip) 0 = [] := by kernel_rfl
    rw [e]
    intro p hp
    cases hp) (F17_s N) (fun _ => ⟨rfl, rfl⟩) (F17_text N) (F17_pat N) (F17_parF N)
/-! ### seismonet/seismonetref17.DivSmall (function 20) -/
def F20_an : Nat → Keep × Keep := anF [(13, ⟨[1, 4, 5, 7], [], [16], [(0, 1)], [], [], [], [16], false⟩, ⟨[4, 5], [], [16], [], [], [], [], [16], false⟩)] [(100012, ([4], []))]
noncomputable def F20_g (N : Nat) : GamK := gam (P := Tryz.prog) [F26_e N, F50_e N, F46_e N]
noncomputable def F20_l13 (N : Nat) : LSpec where
  X := (List (List AV)) × Int × Nat × Int × Int × (List AV)
  Y := (Nat × Int × (List AV))
  p := fun s => match s.env.length, s.nin, s.at 0, s.at 1, s.at 4, s.at 5, s.at 7, s.bx 16 with
    | 43, 0, (AV.list 1 a0 none), (AV.v (.int .i64 a1)), (AV.vs 16 0 a2 1), (AV.v (.int .i64 a3)), (AV.v (.int .i64 a4)), some a5 => some (a0, a1, a2, a3, a4, a5)
    | _, _, _, _, _, _, _, _ => none
  st := fun x => mkS 43 [(0, (AV.list 1 x.1 none)), (1, (AV.v (.int .i64 x.2.1))), (4, (AV.vs 16 0 x.2.2.1 1)), (5, (AV.v (.int .i64 x.2.2.2.1))), (7, (AV.v (.int .i64 x.2.2.2.2.1)))] [(16, x.2.2.2.2.2)] (F20_an 13).1.toks 0
  out := fun y => (.exit 0, mkS 43 [(4, (AV.vs 16 0 y.1 1)), (5, (AV.v (.int .i64 y.2.1)))] [(16, y.2.2)] (F20_an 13).2.toks 0)
  sp := fun y α k => k (.exit 0, mkS 43 [(4, (AV.vs 16 0 y.1 1)), (5, (AV.v (.int .i64 y.2.1)))] [(16, y.2.2)] (F20_an 13).2.toks 0)
  spe := fun y α k => rfl
  b := fun x α kn ke => (match (decide (x.2.2.2.2.1 ≥ 0)) with | true => (if 0 ≤ x.2.2.2.2.1 then (match x.1[x.2.2.2.2.1.toNat]? with | some c7 => (match c7[0]? with | some x8 => (match x8 with | .v (.int q10 n9) => (if q10 = .i64 then (if x.2.1 = 0 then none else (if 0 ≤ x.2.2.2.2.1 ∧ x.2.2.2.2.1 < (x.2.2.1 : Int) then (if ((0 + x.2.2.2.2.1.toNat) * 1) + 1 ≤ x.2.2.2.2.2.length then (if x.2.1 = 0 then none else (kn (x.1, x.2.1, x.2.2.1, ((i64 ((i64 (x.2.2.2.1 * 1073741824)) + n9)).tmod x.2.1), (i64 (x.2.2.2.2.1 - 1)), ((x.2.2.2.2.2.set (((0 + x.2.2.2.2.1.toNat) * 1)) (AV.v (.int .i64 (i64 ((i64 ((i64 (x.2.2.2.1 * 1073741824)) + n9)).tdiv x.2.1))))).map dat0)))) else none) else none)) else none) | _ => none) | none => none) | none => none) else none) | false => (ke (x.2.2.1, x.2.2.2.1, (x.2.2.2.2.2.map dat0))))
noncomputable abbrev F20_d13 (N : Nat) (x : (List (List AV)) × Int × Nat × Int × Int × (List AV)) : Option ((Nat × Int × (List AV))) := (F20_l13 N).L N x
noncomputable def F20_s (N : Nat) : FSpec where
  X := (List (List AV)) × Int
  Y := (List (List AV)) × Int × Int
  ash := [[some 1], [none]]
  bsh := []
  S := ⟨[[some 1], [none], [none]], [], [], [], []⟩
  bm := false
  pat := fun a b => match a, b with
    | [(AV.list 1 a0 none), (AV.v (.int .i64 a1))], [] => some (a0, a1)
    | _, _ => none
  args := fun x => [(AV.list 1 x.1 none), (AV.v (.int .i64 x.2))]
  bs := fun x => []
  ret := fun y => ⟨(AV.tup [(AV.list 1 y.1 none), (AV.v (.int .i64 y.2.1)), (AV.v (.int .i64 y.2.2))]), [], none, [], [], []⟩
  t := fun x α k => (match F26_d N x.1 with | some y1 => (match (!y1) with | true => (k (([] : List (List AV)), 0, 1)) | false => (match F50_d N (x.2, 1, 1073741823) with | some y2 => (match (!y2) with | true => (k (([] : List (List AV)), 0, 2)) | false => (if 0 ≤ (x.1.length : Int) ∧ (x.1.length : Int) ≤ (x.1.length : Int) ∧ (x.1.length : Int).toNat * 8 ≤ maxBytes then (match F20_d13 N (x.1, x.2, ((x.1.length : Int).toNat), 0, (i64 ((x.1.length : Int) - 1)), ((List.replicate (x.1.length : Int).toNat (AV.v (.int .i64 0))).map dat0)) with | some y11 => (if y11.1 * 1 ≤ y11.2.2.length then (match F46_d N (chunks (y11.2.2.take (y11.1 * 1)) 1 y11.1) with | some y12 => (k (y12, y11.2.1, 0)) | none => none) else none) | none => none) else none)) | none => none)) | none => none)
noncomputable abbrev F20_d (N : Nat) (x : (List (List AV)) × Int) : Option ((List (List AV)) × Int × Int) := (F20_s N).d x
theorem F20_par13 (N : Nat) : Par (F20_l13 N).b := by
  intro x α β kn ke kn' ke' r r' h h1 h2
  revert h
  dsimp only [F20_l13]
  (repeat' (first | (with_reducible refine par_ite ?_ ?_) | (with_reducible refine par_both ?_ ?_) | split)) <;> intro h <;> first | exact h1 _ h | exact h2 _ h | (cases h; done)
theorem F20_body13 (N : Nat) (x : (F20_l13 N).X) (α : Type) (kn : AS → Option α) (ke : Out → Option α) : around (tabOf Tryz.prog) (F20_g N) F20_an (lam N [(13, F20_l13 N)]) 13 (bodyOf (nthLoop 13 (Tryz.f20.body.getD .skip))) ((F20_l13 N).st x) kn ke = (F20_l13 N).b x α (fun x' => kn ((F20_l13 N).st x')) (fun y => (F20_l13 N).sp y α ke) := by kernel_rfl
theorem F20_pat13 (N : Nat) (s : AS) (x : (F20_l13 N).X) (hc : s = canon (F20_an 13).1 s) (h : (F20_l13 N).p s = some x) : s = (F20_l13 N).st x := by
  dsimp only [F20_l13] at h
  split at h
  · cases h
    exact canon_mk hc ‹_› ‹_› rfl rfl rfl ⟨‹_›, ‹_›, ‹_›, ‹_›, ‹_›, trivial⟩ ⟨‹_›, trivial⟩
  · cases h
theorem F20_loop13 (N : Nat) : ∀ s o, s = canon (F20_an 13).1 s → (lam N [(13, F20_l13 N)]).v 13 s = some o → LoopSem Tryz.prog (nthLoop 13 (Tryz.f20.body.getD .skip)) s o :=
  loop_ok (tabOf_ok Tryz.prog) (gam_ok _) mixed F20_an N [(13, F20_l13 N)] 13 (bodyOf (nthLoop 13 (Tryz.f20.body.getD .skip))) (nthLoop 13 (Tryz.f20.body.getD .skip)) (by kernel_rfl) (by
    have e : actOf F20_an (bodyOf (nthLoop 13 (Tryz.f20.body.getD .skip))) (13 + 1) = [] := by kernel_rfl
    rw [e]
    intro p hp
    cases hp) (F20_l13 N) rfl (fun s x hc h => F20_pat13 N s x hc h) (fun x => rfl) (fun x α kn ke => (F20_body13 N x α kn ke).trans (congrArg ((F20_l13 N).b x α _) (funext fun y => (F20_l13 N).spe y α ke))) (F20_par13 N)
theorem F20_parF (N : Nat) : ParF (F20_s N).t := by
  intro x α β k k' r r' h h1
  revert h
  dsimp only [F20_s]
  (repeat' (first | (with_reducible refine par_ite ?_ ?_) | (with_reducible refine par_both ?_ ?_) | split)) <;> intro h <;> first | exact h1 _ h | (cases h; done)
theorem F20_text (N : Nat) (x : (F20_s N).X) : acall (tabOf Tryz.prog) (F20_g N) F20_an (lam N [(13, F20_l13 N)]) Tryz.f20 (F20_s N).S ((F20_s N).args x) ((F20_s N).bs x) = (F20_s N).t x Ret (fun y => some ((F20_s N).ret y)) := by kernel_rfl
theorem F20_pat (N : Nat) (a : List AV) (b : List (List AV)) (x : (F20_s N).X) (h : (F20_s N).pat a b = some x) : a = (F20_s N).args x ∧ b = (F20_s N).bs x := by
  dsimp only [F20_s] at h
  split at h
  · cases h; exact ⟨rfl, rfl⟩
  · cases h
noncomputable def F20_e (N : Nat) : Ent Tryz.prog := entOf (tabOf_ok Tryz.prog) (gam_ok _) mixed 20 Tryz.f20 Tryz.func20 rfl F20_an (lam N [(13, F20_l13 N)]) (by
    have e : actOf F20_an (Tryz.f20.body.getD .skip) 0 = [(13, nthLoop 13 (Tryz.f20.body.getD .skip))] := by kernel_rfl
    rw [e]
    intro p hp
    rcases List.mem_cons.1 hp with rfl | hp
    · exact F20_loop13 N
    cases hp) (F20_s N) (fun _ => ⟨rfl, rfl⟩) (F20_text N) (F20_pat N) (F20_parF N)
/-! ### seismonet/seismonetref17.From (function 39) -/
def F39_an : Nat → Keep × Keep := anL [(8, ⟨[0], [(4, 1)], [], [], [], [], [], [], false⟩, ⟨[], [(4, 1)], [], [], [], [], [], [], false⟩)]
noncomputable def F39_g (N : Nat) : GamK := gam (P := Tryz.prog) []
noncomputable def F39_l8 (N : Nat) : LSpec where
  X := (List (List AV)) × Int
  Y := ((List (List AV)))
  p := fun s => match s.env.length, s.nin, s.at 4, s.at 0 with
    | 17, 0, (AV.list 1 a0 (some 1280000256)), (AV.v (.int .i64 a1)) => some (a0, a1)
    | _, _, _, _ => none
  st := fun x => mkS 17 [(4, (AV.list 1 x.1 (some 1280000256))), (0, (AV.v (.int .i64 x.2)))] [] (F39_an 8).1.toks 0
  out := fun y => (.exit 0, mkS 17 [(4, (AV.list 1 y (some 1280000256)))] [] (F39_an 8).2.toks 0)
  sp := fun y α k => k (.exit 0, mkS 17 [(4, (AV.list 1 y (some 1280000256)))] [] (F39_an 8).2.toks 0)
  spe := fun y α k => rfl
  b := fun x α kn ke => (match (decide (x.2 > 0)) with | true => (if (x.1.length + [[(AV.v (.int .i64 (x.2.tmod 1073741824)))]].length) * 8 ≤ maxBytes then (kn ((x.1 ++ [[(AV.v (.int .i64 (x.2.tmod 1073741824)))]]), (i64 (x.2.tdiv 1073741824)))) else none) | false => (ke x.1))
noncomputable abbrev F39_d8 (N : Nat) (x : (List (List AV)) × Int) : Option (((List (List AV)))) := (F39_l8 N).L N x
noncomputable def F39_s (N : Nat) : FSpec where
  X := Int
  Y := (List (List AV)) × Int
  ash := [[none]]
  bsh := []
  S := ⟨[[some 2000001], [none]], [], [], [], []⟩
  bm := false
  pat := fun a b => match a, b with
    | [(AV.v (.int .i64 a0))], [] => some a0
    | _, _ => none
  args := fun x => [(AV.v (.int .i64 x))]
  bs := fun x => []
  ret := fun y => ⟨(AV.tup [(AV.list 1 y.1 (some 2560000000)), (AV.v (.int .i64 y.2))]), [], none, [], [2560000000], []⟩
  t := fun x α k => (match (decide (x < 0)) with | true => (k (([] : List (List AV)), 2)) | false => (match F39_d8 N (([] : List (List AV)), x) with | some y1 => (k (y1, 0)) | none => none))
noncomputable abbrev F39_d (N : Nat) (x : Int) : Option ((List (List AV)) × Int) := (F39_s N).d x
theorem F39_par8 (N : Nat) : Par (F39_l8 N).b := by
  intro x α β kn ke kn' ke' r r' h h1 h2
  revert h
  dsimp only [F39_l8]
  (repeat' (first | (with_reducible refine par_ite ?_ ?_) | (with_reducible refine par_both ?_ ?_) | split)) <;> intro h <;> first | exact h1 _ h | exact h2 _ h | (cases h; done)
theorem F39_body8 (N : Nat) (x : (F39_l8 N).X) (α : Type) (kn : AS → Option α) (ke : Out → Option α) : around (tabOf Tryz.prog) (F39_g N) F39_an (lam N [(8, F39_l8 N)]) 8 (bodyOf (nthLoop 8 (Tryz.f39.body.getD .skip))) ((F39_l8 N).st x) kn ke = (F39_l8 N).b x α (fun x' => kn ((F39_l8 N).st x')) (fun y => (F39_l8 N).sp y α ke) := by kernel_rfl
theorem F39_pat8 (N : Nat) (s : AS) (x : (F39_l8 N).X) (hc : s = canon (F39_an 8).1 s) (h : (F39_l8 N).p s = some x) : s = (F39_l8 N).st x := by
  dsimp only [F39_l8] at h
  split at h
  · cases h
    exact canon_mk hc ‹_› ‹_› rfl rfl rfl ⟨‹_›, ‹_›, trivial⟩ trivial
  · cases h
theorem F39_loop8 (N : Nat) : ∀ s o, s = canon (F39_an 8).1 s → (lam N [(8, F39_l8 N)]).v 8 s = some o → LoopSem Tryz.prog (nthLoop 8 (Tryz.f39.body.getD .skip)) s o :=
  loop_ok (tabOf_ok Tryz.prog) (gam_ok _) mixed F39_an N [(8, F39_l8 N)] 8 (bodyOf (nthLoop 8 (Tryz.f39.body.getD .skip))) (nthLoop 8 (Tryz.f39.body.getD .skip)) (by kernel_rfl) (by
    have e : actOf F39_an (bodyOf (nthLoop 8 (Tryz.f39.body.getD .skip))) (8 + 1) = [] := by kernel_rfl
    rw [e]
    intro p hp
    cases hp) (F39_l8 N) rfl (fun s x hc h => F39_pat8 N s x hc h) (fun x => rfl) (fun x α kn ke => (F39_body8 N x α kn ke).trans (congrArg ((F39_l8 N).b x α _) (funext fun y => (F39_l8 N).spe y α ke))) (F39_par8 N)
theorem F39_parF (N : Nat) : ParF (F39_s N).t := by
  intro x α β k k' r r' h h1
  revert h
  dsimp only [F39_s]
  (repeat' (first | (with_reducible refine par_ite ?_ ?_) | (with_reducible refine par_both ?_ ?_) | split)) <;> intro h <;> first | exact h1 _ h | (cases h; done)
theorem F39_text (N : Nat) (x : (F39_s N).X) : acall (tabOf Tryz.prog) (F39_g N) F39_an (lam N [(8, F39_l8 N)]) Tryz.f39 (F39_s N).S ((F39_s N).args x) ((F39_s N).bs x) = (F39_s N).t x Ret (fun y => some ((F39_s N).ret y)) := by kernel_rfl
theorem F39_pat (N : Nat) (a : List AV) (b : List (List AV)) (x : (F39_s N).X) (h : (F39_s N).pat a b = some x) : a = (F39_s N).args x ∧ b = (F39_s N).bs x := by
  dsimp only [F39_s] at h
  split at h
  · cases h; exact ⟨rfl, rfl⟩
  · cases h
noncomputable def F39_e (N : Nat) : Ent Tryz.prog := entOf (tabOf_ok Tryz.prog) (gam_ok _) mixed 39 Tryz.f39 Tryz.func39 rfl F39_an (lam N [(8, F39_l8 N)]) (by
    have e : actOf F39_an (Tryz.f39.body.getD .skip) 0 = [(8, nthLoop 8 (Tryz.f39.body.getD .skip))] := by kernel_rfl
    rw [e]
    intro p hp
    rcases List.mem_cons.1 hp with rfl | hp
    · exact F39_loop8 N
    cases hp) (F39_s N) (fun _ => ⟨rfl, rfl⟩) (F39_text N) (F39_pat N) (F39_parF N)
/-! ### seismonet/seismonetref17.Int (function 22) -/
def F22_an : Nat → Keep × Keep := anL [(14, ⟨[6, 7], [], [], [(0, 1)], [], [], [], [], false⟩, ⟨[6], [], [], [], [], [], [], [], false⟩)]
noncomputable def F22_g (N : Nat) : GamK := gam (P := Tryz.prog) [F26_e N, F39_e N, F17_e N]
noncomputable def F22_l14 (N : Nat) : LSpec where
  X := (List (List AV)) × Int × Int
  Y := (Int)
  p := fun s => match s.env.length, s.nin, s.at 0, s.at 6, s.at 7 with
    | 34, 0, (AV.list 1 a0 none), (AV.v (.int .i64 a1)), (AV.v (.int .i64 a2)) => some (a0, a1, a2)
    | _, _, _, _, _ => none
  st := fun x => mkS 34 [(0, (AV.list 1 x.1 none)), (6, (AV.v (.int .i64 x.2.1))), (7, (AV.v (.int .i64 x.2.2)))] [] (F22_an 14).1.toks 0
  out := fun y => (.exit 0, mkS 34 [(6, (AV.v (.int .i64 y)))] [] (F22_an 14).2.toks 0)
  sp := fun y α k => k (.exit 0, mkS 34 [(6, (AV.v (.int .i64 y)))] [] (F22_an 14).2.toks 0)
  spe := fun y α k => rfl
  b := fun x α kn ke => (match (decide (x.2.2 ≥ 0)) with | true => (if 0 ≤ x.2.2 then (match x.1[x.2.2.toNat]? with | some c4 => (match c4[0]? with | some x5 => (match x5 with | .v (.int q7 n6) => (if q7 = .i64 then (kn (x.1, (i64 ((i64 (x.2.1 * 1073741824)) + n6)), (i64 (x.2.2 - 1)))) else none) | _ => none) | none => none) | none => none) else none) | false => (ke x.2.1))
noncomputable abbrev F22_d14 (N : Nat) (x : (List (List AV)) × Int × Int) : Option ((Int)) := (F22_l14 N).L N x
noncomputable def F22_s (N : Nat) : FSpec where
  X := (List (List AV))
  Y := Int × Int
  ash := [[some 1]]
  bsh := []
  S := ⟨[[none], [none]], [], [], [], []⟩
  bm := false
  pat := fun a b => match a, b with
    | [(AV.list 1 a0 none)], [] => some a0
    | _, _ => none
  args := fun x => [(AV.list 1 x none)]
  bs := fun x => []
  ret := fun y => ⟨(AV.tup [(AV.v (.int .i64 y.1)), (AV.v (.int .i64 y.2))]), [], none, [], [], []⟩
  t := fun x α k => (match F26_d N x with | some y1 => (match (!y1) with | true => (k (0, 1)) | false => (match F39_d N 4611686018427387904 with | some y2 => (match F17_d N (x, y2.1) with | some y3 => (match (decide (y3 > 0)) with | true => (k (0, 2)) | false => (match F22_d14 N (x, 0, (i64 ((x.length : Int) - 1))) with | some y8 => (k (y8, 0)) | none => none)) | none => none) | none => none)) | none => none)
noncomputable abbrev F22_d (N : Nat) (x : (List (List AV))) : Option (Int × Int) := (F22_s N).d x
theorem F22_par14 (N : Nat) : Par (F22_l14 N).b := by
  intro x α β kn ke kn' ke' r r' h h1 h2
  revert h
  dsimp only [F22_l14]
  (repeat' (first | (with_reducible refine par_ite ?_ ?_) | (with_reducible refine par_both ?_ ?_) | split)) <;> intro h <;> first | exact h1 _ h | exact h2 _ h | (cases h; done)
theorem F22_body14 (N : Nat) (x : (F22_l14 N).X) (α : Type) (kn : AS → Option α) (ke : Out → Option α) : around (tabOf Tryz.prog) (F22_g N) F22_an (lam N [(14, F22_l14 N)]) 14 (bodyOf (nthLoop 14 (Tryz.f22.body.getD .skip))) ((F22_l14 N).st x) kn ke = (F22_l14 N).b x α (fun x' => kn ((F22_l14 N).st x')) (fun y => (F22_l14 N).sp y α ke) := by kernel_rfl
theorem F22_pat14 (N : Nat) (s : AS) (x : (F22_l14 N).X) (hc : s = canon (F22_an 14).1 s) (h : (F22_l14 N).p s = some x) : s = (F22_l14 N).st x := by
  dsimp only [F22_l14] at h
  split at h
  · cases h
    exact canon_mk hc ‹_› ‹_› rfl rfl rfl ⟨‹_›, ‹_›, ‹_›, trivial⟩ trivial
  · cases h
theorem F22_loop14 (N : Nat) : ∀ s o, s = canon (F22_an 14).1 s → (lam N [(14, F22_l14 N)]).v 14 s = some o → LoopSem Tryz.prog (nthLoop 14 (Tryz.f22.body.getD .skip)) s o :=
  loop_ok (tabOf_ok Tryz.prog) (gam_ok _) mixed F22_an N [(14, F22_l14 N)] 14 (bodyOf (nthLoop 14 (Tryz.f22.body.getD .skip))) (nthLoop 14 (Tryz.f22.body.getD .skip)) (by kernel_rfl) (by
    have e : actOf F22_an (bodyOf (nthLoop 14 (Tryz.f22.body.getD .skip))) (14 + 1) = [] := by kernel_rfl
    rw [e]
    intro p hp
    cases hp) (F22_l14 N) rfl (fun s x hc h => F22_pat14 N s x hc h) (fun x => rfl) (fun x α kn ke => (F22_body14 N x α kn ke).trans (congrArg ((F22_l14 N).b x α _) (funext fun y => (F22_l14 N).spe y α ke))) (F22_par14 N)
theorem F22_parF (N : Nat) : ParF (F22_s N).t := by
  intro x α β k k' r r' h h1
  revert h
  dsimp only [F22_s]
  (repeat' (first | (with_reducible refine par_ite ?_ ?_) | (with_reducible refine par_both ?_ ?_) | split)) <;> intro h <;> first | exact h1 _ h | (cases h; done)
theorem F22_text (N : Nat) (x : (F22_s N).X) : acall (tabOf Tryz.prog) (F22_g N) F22_an (lam N [(14, F22_l14 N)]) Tryz.f22 (F22_s N).S ((F22_s N).args x) ((F22_s N).bs x) = (F22_s N).t x Ret (fun y => some ((F22_s N).ret y)) := by kernel_rfl
theorem F22_pat (N : Nat) (a : List AV) (b : List (List AV)) (x : (F22_s N).X) (h : (F22_s N).pat a b = some x) : a = (F22_s N).args x ∧ b = (F22_s N).bs x := by
  dsimp only [F22_s] at h
  split at h
  · cases h; exact ⟨rfl, rfl⟩
  · cases h
noncomputable def F22_e (N : Nat) : Ent Tryz.prog := entOf (tabOf_ok Tryz.prog) (gam_ok _) mixed 22 Tryz.f22 Tryz.func22 rfl F22_an (lam N [(14, F22_l14 N)]) (by
    have e : actOf F22_an (Tryz.f22.body.getD .skip) 0 = [(14, nthLoop 14 (Tryz.f22.body.getD .skip))] := by kernel_rfl
    rw [e]
    intro p hp
    rcases List.mem_cons.1 hp with rfl | hp
    · exact F22_loop14 N
    cases hp) (F22_s N) (fun _ => ⟨rfl, rfl⟩) (F22_text N) (F22_pat N) (F22_parF N)
/-! ### seismonet/seismonetref17.Text (function 24) -/
def F24_an : Nat → Keep × Keep := anL [(8, ⟨[4], [], [], [(0, 1)], [], [], [], [], false⟩, ⟨[4], [], [], [], [], [], [], [], false⟩)]
noncomputable def F24_g (N : Nat) : GamK := gam (P := Tryz.prog) [F26_e N, F20_e N]
noncomputable def F24_l8 (N : Nat) : LSpec where
  X := (List (List AV)) × ByteArray
  Y := (ByteArray)
  p := fun s => match s.env.length, s.nin, s.at 0, s.at 4 with
    | 31, 0, (AV.list 1 a0 none), (AV.v (.string a1)) => some (a0, a1)
    | _, _, _, _ => none
  st := fun x => mkS 31 [(0, (AV.list 1 x.1 none)), (4, (AV.v (.string x.2)))] [] (F24_an 8).1.toks 0
  out := fun y => (.exit 0, mkS 31 [(4, (AV.v (.string y)))] [] (F24_an 8).2.toks 0)
  sp := fun y α k => k (.exit 0, mkS 31 [(4, (AV.v (.string y)))] [] (F24_an 8).2.toks 0)
  spe := fun y α k => rfl
  b := fun x α kn ke => (match (decide ((x.1.length : Int) > 0)) with | true => (match F20_d N (x.1, 10) with | some y2 => (match numsOf ([[(AV.v (.int .u8 (IntKind.u8.wrap (i64 (48 + y2.2.1)))))]]) with | some s3 => (if (strOfNums s3).size + x.2.size ≤ 9223372036854775807 then (kn (y2.1, ((strOfNums s3) ++ x.2))) else none) | none => none) | none => none) | false => (ke x.2))
noncomputable abbrev F24_d8 (N : Nat) (x : (List (List AV)) × ByteArray) : Option ((ByteArray)) := (F24_l8 N).L N x
noncomputable def F24_s (N : Nat) : FSpec where
  X := (List (List AV))
  Y := ByteArray × Int
  ash := [[some 1]]
  bsh := []
  S := ⟨[[none], [none]], [], [], [], []⟩
  bm := false
  pat := fun a b => match a, b with
    | [(AV.list 1 a0 none)], [] => some a0
    | _, _ => none
  args := fun x => [(AV.list 1 x none)]
  bs := fun x => []
  ret := fun y => ⟨(AV.tup [(AV.v (.string y.1)), (AV.v (.int .i64 y.2))]), [], none, [], [], []⟩
  t := fun x α k => (match F26_d N x with | some y1 => (match (!y1) with | true => (k ((⟨#[]⟩ : ByteArray), 1)) | false => (match F24_d8 N (x, (⟨#[]⟩ : ByteArray)) with | some y4 => (match (y4.toList == (⟨#[]⟩ : ByteArray).toList) with | true => (k ((⟨#[48]⟩ : ByteArray), 0)) | false => (k (y4, 0))) | none => none)) | none => none)
noncomputable abbrev F24_d (N : Nat) (x : (List (List AV))) : Option (ByteArray × Int) := (F24_s N).d x
theorem F24_par8 (N : Nat) : Par (F24_l8 N).b := by
  intro x α β kn ke kn' ke' r r' h h1 h2
  revert h
  dsimp only [F24_l8]
  (repeat' (first | (with_reducible refine par_ite ?_ ?_) | (with_reducible refine par_both ?_ ?_) | split)) <;> intro h <;> first | exact h1 _ h | exact h2 _ h | (cases h; done)
theorem F24_body8 (N : Nat) (x : (F24_l8 N).X) (α : Type) (kn : AS → Option α) (ke : Out → Option α) : around (tabOf Tryz.prog) (F24_g N) F24_an (lam N [(8, F24_l8 N)]) 8 (bodyOf (nthLoop 8 (Tryz.f24.body.getD .skip))) ((F24_l8 N).st x) kn ke = (F24_l8 N).b x α (fun x' => kn ((F24_l8 N).st x')) (fun y => (F24_l8 N).sp y α ke) := by kernel_rfl
theorem F24_pat8 (N : Nat) (s : AS) (x : (F24_l8 N).X) (hc : s = canon (F24_an 8).1 s) (h : (F24_l8 N).p s = some x) : s = (F24_l8 N).st x := by
  dsimp only [F24_l8] at h
  split at h
  · cases h
    exact canon_mk hc ‹_› ‹_› rfl rfl rfl ⟨‹_›, ‹_›, trivial⟩ trivial
  · cases h
theorem F24_loop8 (N : Nat) : ∀ s o, s = canon (F24_an 8).1 s → (lam N [(8, F24_l8 N)]).v 8 s = some o → LoopSem Tryz.prog (nthLoop 8 (Tryz.f24.body.getD .skip)) s o :=
  loop_ok (tabOf_ok Tryz.prog) (gam_ok _) mixed F24_an N [(8, F24_l8 N)] 8 (bodyOf (nthLoop 8 (Tryz.f24.body.getD .skip))) (nthLoop 8 (Tryz.f24.body.getD .skip)) (by kernel_rfl) (by
    have e : actOf F24_an (bodyOf (nthLoop 8 (Tryz.f24.body.getD .skip))) (8 + 1) = [] := by kernel_rfl
    rw [e]
    intro p hp
    cases hp) (F24_l8 N) rfl (fun s x hc h => F24_pat8 N s x hc h) (fun x => rfl) (fun x α kn ke => (F24_body8 N x α kn ke).trans (congrArg ((F24_l8 N).b x α _) (funext fun y => (F24_l8 N).spe y α ke))) (F24_par8 N)
theorem F24_parF (N : Nat) : ParF (F24_s N).t := by
  intro x α β k k' r r' h h1
  revert h
  dsimp only [F24_s]
  (repeat' (first | (with_reducible refine par_ite ?_ ?_) | (with_reducible refine par_both ?_ ?_) | split)) <;> intro h <;> first | exact h1 _ h | (cases h; done)
theorem F24_text (N : Nat) (x : (F24_s N).X) : acall (tabOf Tryz.prog) (F24_g N) F24_an (lam N [(8, F24_l8 N)]) Tryz.f24 (F24_s N).S ((F24_s N).args x) ((F24_s N).bs x) = (F24_s N).t x Ret (fun y => some ((F24_s N).ret y)) := by kernel_rfl
theorem F24_pat (N : Nat) (a : List AV) (b : List (List AV)) (x : (F24_s N).X) (h : (F24_s N).pat a b = some x) : a = (F24_s N).args x ∧ b = (F24_s N).bs x := by
  dsimp only [F24_s] at h
  split at h
  · cases h; exact ⟨rfl, rfl⟩
  · cases h
noncomputable def F24_e (N : Nat) : Ent Tryz.prog := entOf (tabOf_ok Tryz.prog) (gam_ok _) mixed 24 Tryz.f24 Tryz.func24 rfl F24_an (lam N [(8, F24_l8 N)]) (by
    have e : actOf F24_an (Tryz.f24.body.getD .skip) 0 = [(8, nthLoop 8 (Tryz.f24.body.getD .skip))] := by kernel_rfl
    rw [e]
    intro p hp
    rcases List.mem_cons.1 hp with rfl | hp
    · exact F24_loop8 N
    cases hp) (F24_s N) (fun _ => ⟨rfl, rfl⟩) (F24_text N) (F24_pat N) (F24_parF N)
/-! ### seismonet/seismonetref17.Parse (function 28) -/
def F28_an : Nat → Keep × Keep := anL [(8, ⟨[0, 4], [], [], [], [], [], [], [], false⟩, ⟨[0, 3], [], [], [(2, 1)], [], [], [], [], false⟩), (21, ⟨[0, 6], [], [], [(5, 1)], [], [], [], [], false⟩, ⟨[3], [], [], [(2, 1), (5, 1)], [], [], [], [], false⟩)]
noncomputable def F28_g (N : Nat) : GamK := gam (P := Tryz.prog) [F39_e N, F14_e N, F10_e N]
noncomputable def F28_l21 (N : Nat) : LSpec where
  X := (List (List AV)) × ByteArray × Int
  Y := ((List (List AV)) × (List (List AV)) × Int) ⊕ ((List (List AV)))
  p := fun s => match s.env.length, s.nin, s.at 5, s.at 0, s.at 6 with
    | 73, 0, (AV.list 1 a0 none), (AV.v (.string a1)), (AV.v (.int .i64 a2)) => some (a0, a1, a2)
    | _, _, _, _, _ => none
  st := fun x => mkS 73 [(5, (AV.list 1 x.1 none)), (0, (AV.v (.string x.2.1))), (6, (AV.v (.int .i64 x.2.2)))] [] (F28_an 21).1.toks 0
  out := fun y => match y with
    | .inl y => (.ret, mkS 73 [(2, (AV.list 1 y.1 none)), (5, (AV.list 1 y.2.1 none)), (3, (AV.v (.int .i64 y.2.2)))] [] (F28_an 21).2.toks 0)
    | .inr y => (.exit 2, mkS 73 [(5, (AV.list 1 y none))] [] (F28_an 21).2.toks 0)
  sp := fun y α k => match y with
    | .inl y => k (.ret, mkS 73 [(2, (AV.list 1 y.1 none)), (5, (AV.list 1 y.2.1 none)), (3, (AV.v (.int .i64 y.2.2)))] [] (F28_an 21).2.toks 0)
    | .inr y => k (.exit 2, mkS 73 [(5, (AV.list 1 y none))] [] (F28_an 21).2.toks 0)
  spe := fun y α k => by rcases y with _ | _ <;> rfl
  b := fun x α kn ke => (match (decide (x.2.2 < (x.2.1.size : Int))) with | true => (if 0 ≤ x.2.2 then (match x.2.1[x.2.2.toNat]? with | some c7 => (match F39_d N (IntKind.i64.wrap (IntKind.u8.wrap ((c7.toNat : Int) - 48))) with | some y8 => (match F14_d N (x.1, [[(AV.v (.int .i64 10))]]) with | some y9 => (match (y9.2 != 0) with | true => (ke (.inl (([] : List (List AV)), x.1, y9.2))) | false => (match F10_d N (y9.1, y8.1) with | some y10 => (match (y10.2 != 0) with | true => (ke (.inl (([] : List (List AV)), y10.1, y10.2))) | false => (kn (y10.1, x.2.1, (i64 (x.2.2 + 1))))) | none => none)) | none => none) | none => none) | none => none) else none) | false => (ke (.inr x.1)))
noncomputable abbrev F28_d21 (N : Nat) (x : (List (List AV)) × ByteArray × Int) : Option (((List (List AV)) × (List (List AV)) × Int) ⊕ ((List (List AV)))) := (F28_l21 N).L N x
noncomputable def F28_l8 (N : Nat) : LSpec where
  X := ByteArray × Int
  Y := ((List (List AV)) × ByteArray × Int) ⊕ (ByteArray)
  p := fun s => match s.env.length, s.nin, s.at 0, s.at 4 with
    | 73, 0, (AV.v (.string a0)), (AV.v (.int .i64 a1)) => some (a0, a1)
    | _, _, _, _ => none
  st := fun x => mkS 73 [(0, (AV.v (.string x.1))), (4, (AV.v (.int .i64 x.2)))] [] (F28_an 8).1.toks 0
  out := fun y => match y with
    | .inl y => (.ret, mkS 73 [(2, (AV.list 1 y.1 none)), (0, (AV.v (.string y.2.1))), (3, (AV.v (.int .i64 y.2.2)))] [] (F28_an 8).2.toks 0)
    | .inr y => (.exit 0, mkS 73 [(0, (AV.v (.string y)))] [] (F28_an 8).2.toks 0)
  sp := fun y α k => match y with
    | .inl y => k (.ret, mkS 73 [(2, (AV.list 1 y.1 none)), (0, (AV.v (.string y.2.1))), (3, (AV.v (.int .i64 y.2.2)))] [] (F28_an 8).2.toks 0)
    | .inr y => k (.exit 0, mkS 73 [(0, (AV.v (.string y)))] [] (F28_an 8).2.toks 0)
  spe := fun y α k => by rcases y with _ | _ <;> rfl
  b := fun x α kn ke => (match (decide (x.2 < (x.1.size : Int))) with | true => (if 0 ≤ x.2 then (match x.1[x.2.toNat]? with | some c2 => (match (decide ((c2.toNat : Int) < 48)) with | true => (ke (.inl (([] : List (List AV)), x.1, 3))) | false => (if 0 ≤ x.2 then (match x.1[x.2.toNat]? with | some c3 => (match (decide ((c3.toNat : Int) > 57)) with | true => (ke (.inl (([] : List (List AV)), x.1, 3))) | false => (kn (x.1, (i64 (x.2 + 1))))) | none => none) else none)) | none => none) else none) | false => (ke (.inr x.1)))
noncomputable abbrev F28_d8 (N : Nat) (x : ByteArray × Int) : Option (((List (List AV)) × ByteArray × Int) ⊕ (ByteArray)) := (F28_l8 N).L N x
noncomputable def F28_s (N : Nat) : FSpec where
  X := ByteArray
  Y := (List (List AV)) × Int
  ash := [[none]]
  bsh := []
  S := ⟨[[some 1], [none]], [], [], [], []⟩
  bm := false
  pat := fun a b => match a, b with
    | [(AV.v (.string a0))], [] => some a0
    | _, _ => none
  args := fun x => [(AV.v (.string x))]
  bs := fun x => []
  ret := fun y => ⟨(AV.tup [(AV.list 1 y.1 none), (AV.v (.int .i64 y.2))]), [], none, [], [], []⟩
  t := fun x α k => (match (x.toList == (⟨#[]⟩ : ByteArray).toList) with | true => (k (([] : List (List AV)), 3)) | false => (match (decide ((x.size : Int) > 1)) with | true => (if 0 ≤ (0 : Int) then (match x[(0 : Int).toNat]? with | some c1 => (match ((c1.toNat : Int) == 48) with | true => (k (([] : List (List AV)), 3)) | false => (match F28_d8 N (x, 0) with | some y4 => (match y4 with | .inl z5 => (k (z5.1, z5.2.2)) | .inr z6 => (match F28_d21 N (([] : List (List AV)), z6, 0) with | some y11 => (match y11 with | .inl z12 => (k (z12.1, z12.2.2)) | .inr z13 => (k (z13, 0))) | none => none)) | none => none)) | none => none) else none) | false => (match F28_d8 N (x, 0) with | some y14 => (match y14 with | .inl z15 => (k (z15.1, z15.2.2)) | .inr z16 => (match F28_d21 N (([] : List (List AV)), z16, 0) with | some y17 => (match y17 with | .inl z18 => (k (z18.1, z18.2.2)) | .inr z19 => (k (z19, 0))) | none => none)) | none => none)))
noncomputable abbrev F28_d (N : Nat) (x : ByteArray) : Option ((List (List AV)) × Int) := (F28_s N).d x
theorem F28_par21 (N : Nat) : Par (F28_l21 N).b := by
  intro x α β kn ke kn' ke' r r' h h1 h2
  revert h
  dsimp only [F28_l21]
  (repeat' (first | (with_reducible refine par_ite ?_ ?_) | (with_reducible refine par_both ?_ ?_) | split)) <;> intro h <;> first | exact h1 _ h | exact h2 _ h | (cases h; done)
theorem F28_body21 (N : Nat) (x : (F28_l21 N).X) (α : Type) (kn : AS → Option α) (ke : Out → Option α) : around (tabOf Tryz.prog) (F28_g N) F28_an (lam N [(8, F28_l8 N), (21, F28_l21 N)]) 21 (bodyOf (nthLoop 21 (Tryz.f28.body.getD .skip))) ((F28_l21 N).st x) kn ke = (F28_l21 N).b x α (fun x' => kn ((F28_l21 N).st x')) (fun y => (F28_l21 N).sp y α ke) := by kernel_rfl
theorem F28_pat21 (N : Nat) (s : AS) (x : (F28_l21 N).X) (hc : s = canon (F28_an 21).1 s) (h : (F28_l21 N).p s = some x) : s = (F28_l21 N).st x := by
  dsimp only [F28_l21] at h
  split at h
  · cases h
    exact canon_mk hc ‹_› ‹_› rfl rfl rfl ⟨‹_›, ‹_›, ‹_›, trivial⟩ trivial
  · cases h
theorem F28_loop21 (N : Nat) : ∀ s o, s = canon (F28_an 21).1 s → (lam N [(8, F28_l8 N), (21, F28_l21 N)]).v 21 s = some o → LoopSem Tryz.prog (nthLoop 21 (Tryz.f28.body.getD .skip)) s o :=
  loop_ok (tabOf_ok Tryz.prog) (gam_ok _) mixed F28_an N [(8, F28_l8 N), (21, F28_l21 N)] 21 (bodyOf (nthLoop 21 (Tryz.f28.body.getD .skip))) (nthLoop 21 (Tryz.f28.body.getD .skip)) (by kernel_rfl) (by
    have e : actOf F28_an (bodyOf (nthLoop 21 (Tryz.f28.body.getD .skip))) (21 + 1) = [] := by kernel_rfl
    rw [e]
    intro p hp
    cases hp) (F28_l21 N) rfl (fun s x hc h => F28_pat21 N s x hc h) (fun x => rfl) (fun x α kn ke => (F28_body21 N x α kn ke).trans (congrArg ((F28_l21 N).b x α _) (funext fun y => (F28_l21 N).spe y α ke))) (F28_par21 N)
theorem F28_par8 (N : Nat) : Par (F28_l8 N).b := by
  intro x α β kn ke kn' ke' r r' h h1 h2
  revert h
  dsimp only [F28_l8]
  (repeat' (first | (with_reducible refine par_ite ?_ ?_) | (with_reducible refine par_both ?_ ?_) | split)) <;> intro h <;> first | exact h1 _ h | exact h2 _ h | (cases h; done)
theorem F28_body8 (N : Nat) (x : (F28_l8 N).X) (α : Type) (kn : AS → Option α) (ke : Out → Option α) : around (tabOf Tryz.prog) (F28_g N) F28_an (lam N [(8, F28_l8 N), (21, F28_l21 N)]) 8 (bodyOf (nthLoop 8 (Tryz.f28.body.getD .skip))) ((F28_l8 N).st x) kn ke = (F28_l8 N).b x α (fun x' => kn ((F28_l8 N).st x')) (fun y => (F28_l8 N).sp y α ke) := by kernel_rfl
theorem F28_pat8 (N : Nat) (s : AS) (x : (F28_l8 N).X) (hc : s = canon (F28_an 8).1 s) (h : (F28_l8 N).p s = some x) : s = (F28_l8 N).st x := by
  dsimp only [F28_l8] at h
  split at h
  · cases h
    exact canon_mk hc ‹_› ‹_› rfl rfl rfl ⟨‹_›, ‹_›, trivial⟩ trivial
  · cases h
theorem F28_loop8 (N : Nat) : ∀ s o, s = canon (F28_an 8).1 s → (lam N [(8, F28_l8 N), (21, F28_l21 N)]).v 8 s = some o → LoopSem Tryz.prog (nthLoop 8 (Tryz.f28.body.getD .skip)) s o :=
  loop_ok (tabOf_ok Tryz.prog) (gam_ok _) mixed F28_an N [(8, F28_l8 N), (21, F28_l21 N)] 8 (bodyOf (nthLoop 8 (Tryz.f28.body.getD .skip))) (nthLoop 8 (Tryz.f28.body.getD .skip)) (by kernel_rfl) (by
    have e : actOf F28_an (bodyOf (nthLoop 8 (Tryz.f28.body.getD .skip))) (8 + 1) = [] := by kernel_rfl
    rw [e]
    intro p hp
    cases hp) (F28_l8 N) rfl (fun s x hc h => F28_pat8 N s x hc h) (fun x => rfl) (fun x α kn ke => (F28_body8 N x α kn ke).trans (congrArg ((F28_l8 N).b x α _) (funext fun y => (F28_l8 N).spe y α ke))) (F28_par8 N)
theorem F28_parF (N : Nat) : ParF (F28_s N).t := by
  intro x α β k k' r r' h h1
  revert h
  dsimp only [F28_s]
  (repeat' (first | (with_reducible refine par_ite ?_ ?_) | (with_reducible refine par_both ?_ ?_) | split)) <;> intro h <;> first | exact h1 _ h | (cases h; done)
theorem F28_text (N : Nat) (x : (F28_s N).X) : acall (tabOf Tryz.prog) (F28_g N) F28_an (lam N [(8, F28_l8 N), (21, F28_l21 N)]) Tryz.f28 (F28_s N).S ((F28_s N).args x) ((F28_s N).bs x) = (F28_s N).t x Ret (fun y => some ((F28_s N).ret y)) := by kernel_rfl
theorem F28_pat (N : Nat) (a : List AV) (b : List (List AV)) (x : (F28_s N).X) (h : (F28_s N).pat a b = some x) : a = (F28_s N).args x ∧ b = (F28_s N).bs x := by
  dsimp only [F28_s] at h
  split at h
  · cases h; exact ⟨rfl, rfl⟩
  · cases h
noncomputable def F28_e (N : Nat) : Ent Tryz.prog := entOf (tabOf_ok Tryz.prog) (gam_ok _) mixed 28 Tryz.f28 Tryz.func28 rfl F28_an (lam N [(8, F28_l8 N), (21, F28_l21 N)]) (by
    have e : actOf F28_an (Tryz.f28.body.getD .skip) 0 = [(8, nthLoop 8 (Tryz.f28.body.getD .skip)), (21, nthLoop 21 (Tryz.f28.body.getD .skip))] := by kernel_rfl
    rw [e]
    intro p hp
    rcases List.mem_cons.1 hp with rfl | hp
    · exact F28_loop8 N
    rcases List.mem_cons.1 hp with rfl | hp
    · exact F28_loop21 N
    cases hp) (F28_s N) (fun _ => ⟨rfl, rfl⟩) (F28_text N) (F28_pat N) (F28_parF N)
/-! ### seismonet/seismonetref17.ValidFraction (function 37) -/
def F37_an : Nat → Keep × Keep := anL []
noncomputable def F37_g (N : Nat) : GamK := gam (P := Tryz.prog) [F26_e N]
noncomputable def F37_s (N : Nat) : FSpec where
  X := (List (List AV)) × (List (List AV))
  Y := Bool
  ash := [[some 1, some 1]]
  bsh := []
  S := ⟨[[none]], [], [], [], []⟩
  bm := false
  pat := fun a b => match a, b with
    | [(AV.agg [(AV.list 1 a0 none), (AV.list 1 a1 none)])], [] => some (a0, a1)
    | _, _ => none
  args := fun x => [(AV.agg [(AV.list 1 x.1 none), (AV.list 1 x.2 none)])]
  bs := fun x => []
  ret := fun y => ⟨(AV.v (.bool y)), [], none, [], [], []⟩
  t := fun x α k => (match F26_d N x.1 with | some y1 => (match y1 with | true => (match F26_d N x.2 with | some y2 => (match y2 with | true => (k (decide ((x.2.length : Int) > 0))) | false => (k false)) | none => none) | false => (k false)) | none => none)
noncomputable abbrev F37_d (N : Nat) (x : (List (List AV)) × (List (List AV))) : Option (Bool) := (F37_s N).d x
theorem F37_parF (N : Nat) : ParF (F37_s N).t := by
  intro x α β k k' r r' h h1
  revert h
  dsimp only [F37_s]
  (repeat' (first | (with_reducible refine par_ite ?_ ?_) | (with_reducible refine par_both ?_ ?_) | split)) <;> intro h <;> first | exact h1 _ h | (cases h; done)
theorem F37_text (N : Nat) (x : (F37_s N).X) : acall (tabOf Tryz.prog) (F37_g N) F37_an (lam N []) Tryz.f37 (F37_s N).S ((F37_s N).args x) ((F37_s N).bs x) = (F37_s N).t x Ret (fun y => some ((F37_s N).ret y)) := by kernel_rfl
theorem F37_pat (N : Nat) (a : List AV) (b : List (List AV)) (x : (F37_s N).X) (h : (F37_s N).pat a b = some x) : a = (F37_s N).args x ∧ b = (F37_s N).bs x := by
  dsimp only [F37_s] at h
  split at h
  · cases h; exact ⟨rfl, rfl⟩
  · cases h
noncomputable def F37_e (N : Nat) : Ent Tryz.prog := entOf (tabOf_ok Tryz.prog) (gam_ok _) mixed 37 Tryz.f37 Tryz.func37 rfl F37_an (lam N []) (by
    have e : actOf F37_an (Tryz.f37.body.getD .skip) 0 = [] := by kernel_rfl
    rw [e]
    intro p hp
    cases hp) (F37_s N) (fun _ => ⟨rfl, rfl⟩) (F37_text N) (F37_pat N) (F37_parF N)
/-! ### seismonet/seismonetref17.Less (function 30) -/
def F30_an : Nat → Keep × Keep := anL []
noncomputable def F30_g (N : Nat) : GamK := gam (P := Tryz.prog) [F37_e N, F48_e N, F45_e N]
noncomputable def F30_s (N : Nat) : FSpec where
  X := (List (List AV)) × (List (List AV)) × (List (List AV)) × (List (List AV))
  Y := Bool × Int
  ash := [[some 1, some 1], [some 1, some 1]]
  bsh := []
  S := ⟨[[none], [none]], [], [], [], []⟩
  bm := false
  pat := fun a b => match a, b with
    | [(AV.agg [(AV.list 1 a0 none), (AV.list 1 a1 none)]), (AV.agg [(AV.list 1 a2 none), (AV.list 1 a3 none)])], [] => some (a0, a1, a2, a3)
    | _, _ => none
  args := fun x => [(AV.agg [(AV.list 1 x.1 none), (AV.list 1 x.2.1 none)]), (AV.agg [(AV.list 1 x.2.2.1 none), (AV.list 1 x.2.2.2 none)])]
  bs := fun x => []
  ret := fun y => ⟨(AV.tup [(AV.v (.bool y.1)), (AV.v (.int .i64 y.2))]), [], none, [], [], []⟩
  t := fun x α k => (match F37_d N (x.1, x.2.1) with | some y1 => (match (!y1) with | true => (k (false, 1)) | false => (match F37_d N (x.2.2.1, x.2.2.2) with | some y2 => (match (!y2) with | true => (k (false, 1)) | false => (match F48_d N (x.1, x.2.2.2) with | some y3 => (match F48_d N (x.2.2.1, x.2.1) with | some y4 => (match F45_d N (y3, y4) with | some y5 => (k ((decide (y5 < 0)), 0)) | none => none) | none => none) | none => none)) | none => none)) | none => none)
noncomputable abbrev F30_d (N : Nat) (x : (List (List AV)) × (List (List AV)) × (List (List AV)) × (List (List AV))) : Option (Bool × Int) := (F30_s N).d x
theorem F30_parF (N : Nat) : ParF (F30_s N).t := by
  intro x α β k k' r r' h h1
  revert h
  dsimp only [F30_s]
  (repeat' (first | (with_reducible refine par_ite ?_ ?_) | (with_reducible refine par_both ?_ ?_) | split)) <;> intro h <;> first | exact h1 _ h | (cases h; done)
theorem F30_text (N : Nat) (x : (F30_s N).X) : acall (tabOf Tryz.prog) (F30_g N) F30_an (lam N []) Tryz.f30 (F30_s N).S ((F30_s N).args x) ((F30_s N).bs x) = (F30_s N).t x Ret (fun y => some ((F30_s N).ret y)) := by kernel_rfl
theorem F30_pat (N : Nat) (a : List AV) (b : List (List AV)) (x : (F30_s N).X) (h : (F30_s N).pat a b = some x) : a = (F30_s N).args x ∧ b = (F30_s N).bs x := by
  dsimp only [F30_s] at h
  split at h
  · cases h; exact ⟨rfl, rfl⟩
  · cases h
noncomputable def F30_e (N : Nat) : Ent Tryz.prog := entOf (tabOf_ok Tryz.prog) (gam_ok _) mixed 30 Tryz.f30 Tryz.func30 rfl F30_an (lam N []) (by
    have e : actOf F30_an (Tryz.f30.body.getD .skip) 0 = [] := by kernel_rfl
    rw [e]
    intro p hp
    cases hp) (F30_s N) (fun _ => ⟨rfl, rfl⟩) (F30_text N) (F30_pat N) (F30_parF N)
/-! ### seismonet/seismonetref17.Equal (function 32) -/
def F32_an : Nat → Keep × Keep := anL []
noncomputable def F32_g (N : Nat) : GamK := gam (P := Tryz.prog) [F37_e N, F48_e N, F45_e N]
noncomputable def F32_s (N : Nat) : FSpec where
  X := (List (List AV)) × (List (List AV)) × (List (List AV)) × (List (List AV))
  Y := Bool × Int
  ash := [[some 1, some 1], [some 1, some 1]]
  bsh := []
  S := ⟨[[none], [none]], [], [], [], []⟩
  bm := false
  pat := fun a b => match a, b with
    | [(AV.agg [(AV.list 1 a0 none), (AV.list 1 a1 none)]), (AV.agg [(AV.list 1 a2 none), (AV.list 1 a3 none)])], [] => some (a0, a1, a2, a3)
    | _, _ => none
  args := fun x => [(AV.agg [(AV.list 1 x.1 none), (AV.list 1 x.2.1 none)]), (AV.agg [(AV.list 1 x.2.2.1 none), (AV.list 1 x.2.2.2 none)])]
  bs := fun x => []
  ret := fun y => ⟨(AV.tup [(AV.v (.bool y.1)), (AV.v (.int .i64 y.2))]), [], none, [], [], []⟩
  t := fun x α k => (match F37_d N (x.1, x.2.1) with | some y1 => (match (!y1) with | true => (k (false, 1)) | false => (match F37_d N (x.2.2.1, x.2.2.2) with | some y2 => (match (!y2) with | true => (k (false, 1)) | false => (match F48_d N (x.1, x.2.2.2) with | some y3 => (match F48_d N (x.2.2.1, x.2.1) with | some y4 => (match F45_d N (y3, y4) with | some y5 => (k ((y5 == 0), 0)) | none => none) | none => none) | none => none)) | none => none)) | none => none)
noncomputable abbrev F32_d (N : Nat) (x : (List (List AV)) × (List (List AV)) × (List (List AV)) × (List (List AV))) : Option (Bool × Int) := (F32_s N).d x
theorem F32_parF (N : Nat) : ParF (F32_s N).t := by
  intro x α β k k' r r' h h1
  revert h
  dsimp only [F32_s]
  (repeat' (first | (with_reducible refine par_ite ?_ ?_) | (with_reducible refine par_both ?_ ?_) | split)) <;> intro h <;> first | exact h1 _ h | (cases h; done)
theorem F32_text (N : Nat) (x : (F32_s N).X) : acall (tabOf Tryz.prog) (F32_g N) F32_an (lam N []) Tryz.f32 (F32_s N).S ((F32_s N).args x) ((F32_s N).bs x) = (F32_s N).t x Ret (fun y => some ((F32_s N).ret y)) := by kernel_rfl
theorem F32_pat (N : Nat) (a : List AV) (b : List (List AV)) (x : (F32_s N).X) (h : (F32_s N).pat a b = some x) : a = (F32_s N).args x ∧ b = (F32_s N).bs x := by
  dsimp only [F32_s] at h
  split at h
  · cases h; exact ⟨rfl, rfl⟩
  · cases h
noncomputable def F32_e (N : Nat) : Ent Tryz.prog := entOf (tabOf_ok Tryz.prog) (gam_ok _) mixed 32 Tryz.f32 Tryz.func32 rfl F32_an (lam N []) (by
    have e : actOf F32_an (Tryz.f32.body.getD .skip) 0 = [] := by kernel_rfl
    rw [e]
    intro p hp
    cases hp) (F32_s N) (fun _ => ⟨rfl, rfl⟩) (F32_text N) (F32_pat N) (F32_parF N)
/-! ### seismonet/seismonetref17.Times (function 34) -/
def F34_an : Nat → Keep × Keep := anL []
noncomputable def F34_g (N : Nat) : GamK := gam (P := Tryz.prog) [F37_e N, F14_e N]
noncomputable def F34_s (N : Nat) : FSpec where
  X := (List (List AV)) × (List (List AV)) × (List (List AV)) × (List (List AV))
  Y := (List (List AV)) × (List (List AV)) × Int
  ash := [[some 1, some 1], [some 1, some 1]]
  bsh := []
  S := ⟨[[some 1, some 1], [none]], [], [], [], []⟩
  bm := false
  pat := fun a b => match a, b with
    | [(AV.agg [(AV.list 1 a0 none), (AV.list 1 a1 none)]), (AV.agg [(AV.list 1 a2 none), (AV.list 1 a3 none)])], [] => some (a0, a1, a2, a3)
    | _, _ => none
  args := fun x => [(AV.agg [(AV.list 1 x.1 none), (AV.list 1 x.2.1 none)]), (AV.agg [(AV.list 1 x.2.2.1 none), (AV.list 1 x.2.2.2 none)])]
  bs := fun x => []
  ret := fun y => ⟨(AV.tup [(AV.agg [(AV.list 1 y.1 none), (AV.list 1 y.2.1 none)]), (AV.v (.int .i64 y.2.2))]), [], none, [], [], []⟩
  t := fun x α k => (match F37_d N (x.1, x.2.1) with | some y1 => (match (!y1) with | true => (k (([] : List (List AV)), ([] : List (List AV)), 1)) | false => (match F37_d N (x.2.2.1, x.2.2.2) with | some y2 => (match (!y2) with | true => (k (([] : List (List AV)), ([] : List (List AV)), 1)) | false => (match F14_d N (x.1, x.2.2.1) with | some y3 => (match F14_d N (x.2.1, x.2.2.2) with | some y4 => (match (y3.2 != 0) with | true => (k (([] : List (List AV)), ([] : List (List AV)), 8)) | false => (match (y4.2 != 0) with | true => (k (([] : List (List AV)), ([] : List (List AV)), 8)) | false => (k (y3.1, y4.1, 0)))) | none => none) | none => none)) | none => none)) | none => none)
noncomputable abbrev F34_d (N : Nat) (x : (List (List AV)) × (List (List AV)) × (List (List AV)) × (List (List AV))) : Option ((List (List AV)) × (List (List AV)) × Int) := (F34_s N).d x
theorem F34_parF (N : Nat) : ParF (F34_s N).t := by
  intro x α β k k' r r' h h1
  revert h
  dsimp only [F34_s]
  (repeat' (first | (with_reducible refine par_ite ?_ ?_) | (with_reducible refine par_both ?_ ?_) | split)) <;> intro h <;> first | exact h1 _ h | (cases h; done)
theorem F34_text (N : Nat) (x : (F34_s N).X) : acall (tabOf Tryz.prog) (F34_g N) F34_an (lam N []) Tryz.f34 (F34_s N).S ((F34_s N).args x) ((F34_s N).bs x) = (F34_s N).t x Ret (fun y => some ((F34_s N).ret y)) := by kernel_rfl
theorem F34_pat (N : Nat) (a : List AV) (b : List (List AV)) (x : (F34_s N).X) (h : (F34_s N).pat a b = some x) : a = (F34_s N).args x ∧ b = (F34_s N).bs x := by
  dsimp only [F34_s] at h
  split at h
  · cases h; exact ⟨rfl, rfl⟩
  · cases h
noncomputable def F34_e (N : Nat) : Ent Tryz.prog := entOf (tabOf_ok Tryz.prog) (gam_ok _) mixed 34 Tryz.f34 Tryz.func34 rfl F34_an (lam N []) (by
    have e : actOf F34_an (Tryz.f34.body.getD .skip) 0 = [] := by kernel_rfl
    rw [e]
    intro p hp
    cases hp) (F34_s N) (fun _ => ⟨rfl, rfl⟩) (F34_text N) (F34_pat N) (F34_parF N)
/-! ### seismonet/seismonetref17.SameFraction (function 35) -/
def F35_an : Nat → Keep × Keep := anL []
noncomputable def F35_g (N : Nat) : GamK := gam (P := Tryz.prog) [F15_e N]
noncomputable def F35_s (N : Nat) : FSpec where
  X := (List (List AV)) × (List (List AV)) × (List (List AV)) × (List (List AV))
  Y := Bool
  ash := [[some 1, some 1], [some 1, some 1]]
  bsh := []
  S := ⟨[[none]], [], [], [], []⟩
  bm := false
  pat := fun a b => match a, b with
    | [(AV.agg [(AV.list 1 a0 none), (AV.list 1 a1 none)]), (AV.agg [(AV.list 1 a2 none), (AV.list 1 a3 none)])], [] => some (a0, a1, a2, a3)
    | _, _ => none
  args := fun x => [(AV.agg [(AV.list 1 x.1 none), (AV.list 1 x.2.1 none)]), (AV.agg [(AV.list 1 x.2.2.1 none), (AV.list 1 x.2.2.2 none)])]
  bs := fun x => []
  ret := fun y => ⟨(AV.v (.bool y)), [], none, [], [], []⟩
  t := fun x α k => (match F15_d N (x.1, x.2.2.1) with | some y1 => (match y1 with | true => (match F15_d N (x.2.1, x.2.2.2) with | some y2 => (k y2) | none => none) | false => (k false)) | none => none)
noncomputable abbrev F35_d (N : Nat) (x : (List (List AV)) × (List (List AV)) × (List (List AV)) × (List (List AV))) : Option (Bool) := (F35_s N).d x
theorem F35_parF (N : Nat) : ParF (F35_s N).t := by
  intro x α β k k' r r' h h1
  revert h
  dsimp only [F35_s]
  (repeat' (first | (with_reducible refine par_ite ?_ ?_) | (with_reducible refine par_both ?_ ?_) | split)) <;> intro h <;> first | exact h1 _ h | (cases h; done)
theorem F35_text (N : Nat) (x : (F35_s N).X) : acall (tabOf Tryz.prog) (F35_g N) F35_an (lam N []) Tryz.f35 (F35_s N).S ((F35_s N).args x) ((F35_s N).bs x) = (F35_s N).t x Ret (fun y => some ((F35_s N).ret y)) := by kernel_rfl
theorem F35_pat (N : Nat) (a : List AV) (b : List (List AV)) (x : (F35_s N).X) (h : (F35_s N).pat a b = some x) : a = (F35_s N).args x ∧ b = (F35_s N).bs x := by
  dsimp only [F35_s] at h
  split at h
  · cases h; exact ⟨rfl, rfl⟩
  · cases h
noncomputable def F35_e (N : Nat) : Ent Tryz.prog := entOf (tabOf_ok Tryz.prog) (gam_ok _) mixed 35 Tryz.f35 Tryz.func35 rfl F35_an (lam N []) (by
    have e : actOf F35_an (Tryz.f35.body.getD .skip) 0 = [] := by kernel_rfl
    rw [e]
    intro p hp
    cases hp) (F35_s N) (fun _ => ⟨rfl, rfl⟩) (F35_text N) (F35_pat N) (F35_parF N)
/-! ### seismonet/seismonetlaw17.NatExact (function 3) -/
def F3_an : Nat → Keep × Keep := anF [(13, ⟨[2, 3, 4, 11, 113, 114], [], [87], [(12, 1), (13, 1), (14, 1), (112, 1)], [], [], [], [], false⟩, ⟨[3, 10], [], [], [], [], [], [], [], false⟩), (23, ⟨[2, 3, 4, 11, 113, 114, 121, 122], [], [87], [(12, 1), (13, 1), (14, 1), (17, 1), (112, 1), (120, 1)], [], [], [], [], false⟩, ⟨[2, 3, 4, 10, 11, 113, 114], [], [87], [(12, 1), (13, 1), (14, 1), (17, 1), (112, 1)], [], [], [], [], false⟩), (42, ⟨[2, 3, 4, 11, 113, 114, 208, 209], [], [87], [(12, 1), (13, 1), (14, 1), (17, 1), (112, 1), (207, 1)], [], [], [], [], false⟩, ⟨[2, 3, 4, 10, 11, 113, 114], [], [87], [(12, 1), (13, 1), (14, 1), (17, 1), (112, 1)], [], [], [], [], false⟩), (65, ⟨[2, 3, 4, 11, 113, 114, 294, 295], [], [87], [(12, 1), (13, 1), (14, 1), (17, 1), (112, 1), (293, 1)], [], [], [], [], false⟩, ⟨[2, 3, 4, 10, 11, 113, 114], [], [87], [(12, 1), (13, 1), (14, 1), (17, 1), (112, 1)], [], [], [], [], false⟩)] [(100008, ([14], []))]
noncomputable def F3_g (N : Nat) : GamK := gam (P := Tryz.prog) [F4_e N, F5_e N, F6_e N, F7_e N, F8_e N, F9_e N, F10_e N, F11_e N, F12_e N, F13_e N, F14_e N, F15_e N, F16_e N, F17_e N, F18_e N, F19_e N, F20_e N, F21_e N, F22_e N, F23_e N, F24_e N, F25_e N, F26_e N, F27_e N, F28_e N, F29_e N, F30_e N, F31_e N, F32_e N, F33_e N, F34_e N, F35_e N, F36_e N, F37_e N, F38_e N, F39_e N]
noncomputable def F3_l65 (N : Nat) : LSpec where
  X := (List (List AV)) × (List (List AV)) × (List (List AV)) × (List (List AV)) × (List (List AV)) × (List (List AV)) × Int × Int × ByteArray × Int × Int × Int × Int × (List (List AV)) × Int
  Y := ((List (List AV)) × (List (List AV)) × (List (List AV)) × (List (List AV)) × (List (List AV)) × Int × Int × ByteArray × Bool × Int × Int × (List (List AV)) × Int) ⊕ ((List (List AV)) × (List (List AV)) × (List (List AV)) × (List (List AV)) × (List (List AV)) × Int × Int × ByteArray × Int × Int × (List (List AV)) × Int)
  p := fun s => match s.env.length, s.nin, s.at 12, s.at 13, s.at 14, s.at 17, s.at 112, s.at 293, s.at 2, s.at 3, s.at 4, s.at 11, s.at 113, s.at 114, s.at 294, s.at 295, s.bx 87 with
    | 420, 0, (AV.list 1 a0 none), (AV.list 1 a1 none), (AV.list 1 a2 none), (AV.list 1 a3 none), (AV.list 1 a4 none), (AV.list 1 a5 none), (AV.v (.int .i64 a6)), (AV.v (.int .i64 a7)), (AV.v (.string a8)), (AV.ptr 87 0), (AV.v (.int .i64 a9)), (AV.v (.int .i64 a10)), (AV.v (.int .i64 a11)), (AV.v (.int .i64 a12)), some [(AV.list 1 a13 none), (AV.v (.int .i64 a14))] => some (a0, a1, a2, a3, a4, a5, a6, a7, a8, a9, a10, a11, a12, a13, a14)
    | _, _, _, _, _, _, _, _, _, _, _, _, _, _, _, _, _ => none
  st := fun x => mkS 420 [(12, (AV.list 1 x.1 none)), (13, (AV.list 1 x.2.1 none)), (14, (AV.list 1 x.2.2.1 none)), (17, (AV.list 1 x.2.2.2.1 none)), (112, (AV.list 1 x.2.2.2.2.1 none)), (293, (AV.list 1 x.2.2.2.2.2.1 none)), (2, (AV.v (.int .i64 x.2.2.2.2.2.2.1))), (3, (AV.v (.int .i64 x.2.2.2.2.2.2.2.1))), (4, (AV.v (.string x.2.2.2.2.2.2.2.2.1))), (11, (AV.ptr 87 0)), (113, (AV.v (.int .i64 x.2.2.2.2.2.2.2.2.2.1))), (114, (AV.v (.int .i64 x.2.2.2.2.2.2.2.2.2.2.1))), (294, (AV.v (.int .i64 x.2.2.2.2.2.2.2.2.2.2.2.1))), (295, (AV.v (.int .i64 x.2.2.2.2.2.2.2.2.2.2.2.2.1)))] [(87, [(AV.list 1 x.2.2.2.2.2.2.2.2.2.2.2.2.2.1 none), (AV.v (.int .i64 x.2.2.2.2.2.2.2.2.2.2.2.2.2.2))])] (F3_an 65).1.toks 0
  out := fun y => match y with
    | .inl y => (.ret, mkS 420 [(12, (AV.list 1 y.1 none)), (13, (AV.list 1 y.2.1 none)), (14, (AV.list 1 y.2.2.1 none)), (17, (AV.list 1 y.2.2.2.1 none)), (112, (AV.list 1 y.2.2.2.2.1 none)), (2, (AV.v (.int .i64 y.2.2.2.2.2.1))), (3, (AV.v (.int .i64 y.2.2.2.2.2.2.1))), (4, (AV.v (.string y.2.2.2.2.2.2.2.1))), (10, (AV.v (.bool y.2.2.2.2.2.2.2.2.1))), (11, (AV.ptr 87 0)), (113, (AV.v (.int .i64 y.2.2.2.2.2.2.2.2.2.1))), (114, (AV.v (.int .i64 y.2.2.2.2.2.2.2.2.2.2.1)))] [(87, [(AV.list 1 y.2.2.2.2.2.2.2.2.2.2.2.1 none), (AV.v (.int .i64 y.2.2.2.2.2.2.2.2.2.2.2.2))])] (F3_an 65).2.toks 0)
    | .inr y => (.exit 6, mkS 420 [(12, (AV.list 1 y.1 none)), (13, (AV.list 1 y.2.1 none)), (14, (AV.list 1 y.2.2.1 none)), (17, (AV.list 1 y.2.2.2.1 none)), (112, (AV.list 1 y.2.2.2.2.1 none)), (2, (AV.v (.int .i64 y.2.2.2.2.2.1))), (3, (AV.v (.int .i64 y.2.2.2.2.2.2.1))), (4, (AV.v (.string y.2.2.2.2.2.2.2.1))), (11, (AV.ptr 87 0)), (113, (AV.v (.int .i64 y.2.2.2.2.2.2.2.2.1))), (114, (AV.v (.int .i64 y.2.2.2.2.2.2.2.2.2.1)))] [(87, [(AV.list 1 y.2.2.2.2.2.2.2.2.2.2.1 none), (AV.v (.int .i64 y.2.2.2.2.2.2.2.2.2.2.2))])] (F3_an 65).2.toks 0)
  sp := fun y α k => match y with
    | .inl y => k (.ret, mkS 420 [(12, (AV.list 1 y.1 none)), (13, (AV.list 1 y.2.1 none)), (14, (AV.list 1 y.2.2.1 none)), (17, (AV.list 1 y.2.2.2.1 none)), (112, (AV.list 1 y.2.2.2.2.1 none)), (2, (AV.v (.int .i64 y.2.2.2.2.2.1))), (3, (AV.v (.int .i64 y.2.2.2.2.2.2.1))), (4, (AV.v (.string y.2.2.2.2.2.2.2.1))), (10, (AV.v (.bool y.2.2.2.2.2.2.2.2.1))), (11, (AV.ptr 87 0)), (113, (AV.v (.int .i64 y.2.2.2.2.2.2.2.2.2.1))), (114, (AV.v (.int .i64 y.2.2.2.2.2.2.2.2.2.2.1)))] [(87, [(AV.list 1 y.2.2.2.2.2.2.2.2.2.2.2.1 none), (AV.v (.int .i64 y.2.2.2.2.2.2.2.2.2.2.2.2))])] (F3_an 65).2.toks 0)
    | .inr y => k (.exit 6, mkS 420 [(12, (AV.list 1 y.1 none)), (13, (AV.list 1 y.2.1 none)), (14, (AV.list 1 y.2.2.1 none)), (17, (AV.list 1 y.2.2.2.1 none)), (112, (AV.list 1 y.2.2.2.2.1 none)), (2, (AV.v (.int .i64 y.2.2.2.2.2.1))), (3, (AV.v (.int .i64 y.2.2.2.2.2.2.1))), (4, (AV.v (.string y.2.2.2.2.2.2.2.1))), (11, (AV.ptr 87 0)), (113, (AV.v (.int .i64 y.2.2.2.2.2.2.2.2.1))), (114, (AV.v (.int .i64 y.2.2.2.2.2.2.2.2.2.1)))] [(87, [(AV.list 1 y.2.2.2.2.2.2.2.2.2.2.1 none), (AV.v (.int .i64 y.2.2.2.2.2.2.2.2.2.2.2))])] (F3_an 65).2.toks 0)
  spe := fun y α k => by rcases y with _ | _ <;> rfl
  b := fun x α kn ke => (match (decide (x.2.2.2.2.2.2.2.2.2.2.2.2.1 < x.2.2.2.2.2.2.2.2.2.2.2.1)) with | true => (if 0 ≤ x.2.2.2.2.2.2.2.2.2.2.2.2.1 then (match x.2.2.2.2.2.1[x.2.2.2.2.2.2.2.2.2.2.2.2.1.toNat]? with | some c74 => (match c74[0]? with | some x75 => (match x75 with | .v (.string s76) => (match F27_d N s76 with | some y77 => (match F28_d N s76 with | some y78 => (match (y77.2 != y78.2) with | true => (ke (.inl (x.1, x.2.1, x.2.2.1, x.2.2.2.1, x.2.2.2.2.1, x.2.2.2.2.2.2.1, x.2.2.2.2.2.2.2.1, x.2.2.2.2.2.2.2.2.1, false, x.2.2.2.2.2.2.2.2.2.1, x.2.2.2.2.2.2.2.2.2.2.1, x.2.2.2.2.2.2.2.2.2.2.2.2.2.1, x.2.2.2.2.2.2.2.2.2.2.2.2.2.2))) | false => (match F15_d N (y77.1, y78.1) with | some y79 => (match (!y79) with | true => (ke (.inl (x.1, x.2.1, x.2.2.1, x.2.2.2.1, x.2.2.2.2.1, x.2.2.2.2.2.2.1, x.2.2.2.2.2.2.2.1, x.2.2.2.2.2.2.2.2.1, false, x.2.2.2.2.2.2.2.2.2.1, x.2.2.2.2.2.2.2.2.2.2.1, x.2.2.2.2.2.2.2.2.2.2.2.2.2.1, x.2.2.2.2.2.2.2.2.2.2.2.2.2.2))) | false => (kn (x.1, x.2.1, x.2.2.1, x.2.2.2.1, x.2.2.2.2.1, x.2.2.2.2.2.1, x.2.2.2.2.2.2.1, x.2.2.2.2.2.2.2.1, x.2.2.2.2.2.2.2.2.1, x.2.2.2.2.2.2.2.2.2.1, x.2.2.2.2.2.2.2.2.2.2.1, x.2.2.2.2.2.2.2.2.2.2.2.1, (i64 (x.2.2.2.2.2.2.2.2.2.2.2.2.1 + 1)), x.2.2.2.2.2.2.2.2.2.2.2.2.2.1, x.2.2.2.2.2.2.2.2.2.2.2.2.2.2))) | none => none)) | none => none) | none => none) | _ => none) | none => none) | none => none) else none) | false => (ke (.inr (x.1, x.2.1, x.2.2.1, x.2.2.2.1, x.2.2.2.2.1, x.2.2.2.2.2.2.1, x.2.2.2.2.2.2.2.1, x.2.2.2.2.2.2.2.2.1, x.2.2.2.2.2.2.2.2.2.1, x.2.2.2.2.2.2.2.2.2.2.1, x.2.2.2.2.2.2.2.2.2.2.2.2.2.1, x.2.2.2.2.2.2.2.2.2.2.2.2.2.2))))
noncomputable abbrev F3_d65 (N : Nat) (x : (List (List AV)) × (List (List AV)) × (List (List AV)) × (List (List AV)) × (List (List AV)) × (List (List AV)) × Int × Int × ByteArray × Int × Int × Int × Int × (List (List AV)) × Int) : Option (((List (List AV)) × (List (List AV)) × (List (List AV)) × (List (List AV)) × (List (List AV)) × Int × Int × ByteArray × Bool × Int × Int × (List (List AV)) × Int) ⊕ ((List (List AV)) × (List (List AV)) × (List (List AV)) × (List (List AV)) × (List (List AV)) × Int × Int × ByteArray × Int × Int × (List (List AV)) × Int)) := (F3_l65 N).L N x
noncomputable def F3_l42 (N : Nat) : LSpec where
  X := (List (List AV)) × (List (List AV)) × (List (List AV)) × (List (List AV)) × (List (List AV)) × (List (List AV)) × Int × Int × ByteArray × Int × Int × Int × Int × (List (List AV)) × Int
  Y := ((List (List AV)) × (List (List AV)) × (List (List AV)) × (List (List AV)) × (List (List AV)) × Int × Int × ByteArray × Bool × Int × Int × (List (List AV)) × Int) ⊕ ((List (List AV)) × (List (List AV)) × (List (List AV)) × (List (List AV)) × (List (List AV)) × Int × Int × ByteArray × Int × Int × (List (List AV)) × Int)
  p := fun s => match s.env.length, s.nin, s.at 12, s.at 13, s.at 14, s.at 17, s.at 112, s.at 207, s.at 2, s.at 3, s.at 4, s.at 11, s.at 113, s.at 114, s.at 208, s.at 209, s.bx 87 with
    | 420, 0, (AV.list 1 a0 none), (AV.list 1 a1 none), (AV.list 1 a2 none), (AV.list 1 a3 none), (AV.list 1 a4 none), (AV.list 1 a5 none), (AV.v (.int .i64 a6)), (AV.v (.int .i64 a7)), (AV.v (.string a8)), (AV.ptr 87 0), (AV.v (.int .i64 a9)), (AV.v (.int .i64 a10)), (AV.v (.int .i64 a11)), (AV.v (.int .i64 a12)), some [(AV.list 1 a13 none), (AV.v (.int .i64 a14))] => some (a0, a1, a2, a3, a4, a5, a6, a7, a8, a9, a10, a11, a12, a13, a14)
    | _, _, _, _, _, _, _, _, _, _, _, _, _, _, _, _, _ => none
  st := fun x => mkS 420 [(12, (AV.list 1 x.1 none)), (13, (AV.list 1 x.2.1 none)), (14, (AV.list 1 x.2.2.1 none)), (17, (AV.list 1 x.2.2.2.1 none)), (112, (AV.list 1 x.2.2.2.2.1 none)), (207, (AV.list 1 x.2.2.2.2.2.1 none)), (2, (AV.v (.int .i64 x.2.2.2.2.2.2.1))), (3, (AV.v (.int .i64 x.2.2.2.2.2.2.2.1))), (4, (AV.v (.string x.2.2.2.2.2.2.2.2.1))), (11, (AV.ptr 87 0)), (113, (AV.v (.int .i64 x.2.2.2.2.2.2.2.2.2.1))), (114, (AV.v (.int .i64 x.2.2.2.2.2.2.2.2.2.2.1))), (208, (AV.v (.int .i64 x.2.2.2.2.2.2.2.2.2.2.2.1))), (209, (AV.v (.int .i64 x.2.2.2.2.2.2.2.2.2.2.2.2.1)))] [(87, [(AV.list 1 x.2.2.2.2.2.2.2.2.2.2.2.2.2.1 none), (AV.v (.int .i64 x.2.2.2.2.2.2.2.2.2.2.2.2.2.2))])] (F3_an 42).1.toks 0
  out := fun y => match y with
    | .inl y => (.ret, mkS 420 [(12, (AV.list 1 y.1 none)), (13, (AV.list 1 y.2.1 none)), (14, (AV.list 1 y.2.2.1 none)), (17, (AV.list 1 y.2.2.2.1 none)), (112, (AV.list 1 y.2.2.2.2.1 none)), (2, (AV.v (.int .i64 y.2.2.2.2.2.1))), (3, (AV.v (.int .i64 y.2.2.2.2.2.2.1))), (4, (AV.v (.string y.2.2.2.2.2.2.2.1))), (10, (AV.v (.bool y.2.2.2.2.2.2.2.2.1))), (11, (AV.ptr 87 0)), (113, (AV.v (.int .i64 y.2.2.2.2.2.2.2.2.2.1))), (114, (AV.v (.int .i64 y.2.2.2.2.2.2.2.2.2.2.1)))] [(87, [(AV.list 1 y.2.2.2.2.2.2.2.2.2.2.2.1 none), (AV.v (.int .i64 y.2.2.2.2.2.2.2.2.2.2.2.2))])] (F3_an 42).2.toks 0)
    | .inr y => (.exit 4, mkS 420 [(12, (AV.list 1 y.1 none)), (13, (AV.list 1 y.2.1 none)), (14, (AV.list 1 y.2.2.1 none)), (17, (AV.list 1 y.2.2.2.1 none)), (112, (AV.list 1 y.2.2.2.2.1 none)), (2, (AV.v (.int .i64 y.2.2.2.2.2.1))), (3, (AV.v (.int .i64 y.2.2.2.2.2.2.1))), (4, (AV.v (.string y.2.2.2.2.2.2.2.1))), (11, (AV.ptr 87 0)), (113, (AV.v (.int .i64 y.2.2.2.2.2.2.2.2.1))), (114, (AV.v (.int .i64 y.2.2.2.2.2.2.2.2.2.1)))] [(87, [(AV.list 1 y.2.2.2.2.2.2.2.2.2.2.1 none), (AV.v (.int .i64 y.2.2.2.2.2.2.2.2.2.2.2))])] (F3_an 42).2.toks 0)
  sp := fun y α k => match y with
    | .inl y => k (.ret, mkS 420 [(12, (AV.list 1 y.1 none)), (13, (AV.list 1 y.2.1 none)), (14, (AV.list 1 y.2.2.1 none)), (17, (AV.list 1 y.2.2.2.1 none)), (112, (AV.list 1 y.2.2.2.2.1 none)), (2, (AV.v (.int .i64 y.2.2.2.2.2.1))), (3, (AV.v (.int .i64 y.2.2.2.2.2.2.1))), (4, (AV.v (.string y.2.2.2.2.2.2.2.1))), (10, (AV.v (.bool y.2.2.2.2.2.2.2.2.1))), (11, (AV.ptr 87 0)), (113, (AV.v (.int .i64 y.2.2.2.2.2.2.2.2.2.1))), (114, (AV.v (.int .i64 y.2.2.2.2.2.2.2.2.2.2.1)))] [(87, [(AV.list 1 y.2.2.2.2.2.2.2.2.2.2.2.1 none), (AV.v (.int .i64 y.2.2.2.2.2.2.2.2.2.2.2.2))])] (F3_an 42).2.toks 0)
    | .inr y => k (.exit 4, mkS 420 [(12, (AV.list 1 y.1 none)), (13, (AV.list 1 y.2.1 none)), (14, (AV.list 1 y.2.2.1 none)), (17, (AV.list 1 y.2.2.2.1 none)), (112, (AV.list 1 y.2.2.2.2.1 none)), (2, (AV.v (.int .i64 y.2.2.2.2.2.1))), (3, (AV.v (.int .i64 y.2.2.2.2.2.2.1))), (4, (AV.v (.string y.2.2.2.2.2.2.2.1))), (11, (AV.ptr 87 0)), (113, (AV.v (.int .i64 y.2.2.2.2.2.2.2.2.1))), (114, (AV.v (.int .i64 y.2.2.2.2.2.2.2.2.2.1)))] [(87, [(AV.list 1 y.2.2.2.2.2.2.2.2.2.2.1 none), (AV.v (.int .i64 y.2.2.2.2.2.2.2.2.2.2.2))])] (F3_an 42).2.toks 0)
  spe := fun y α k => by rcases y with _ | _ <;> rfl
  b := fun x α kn ke => (match (decide (x.2.2.2.2.2.2.2.2.2.2.2.2.1 < x.2.2.2.2.2.2.2.2.2.2.2.1)) with | true => (if 0 ≤ x.2.2.2.2.2.2.2.2.2.2.2.2.1 then (match x.2.2.2.2.2.1[x.2.2.2.2.2.2.2.2.2.2.2.2.1.toNat]? with | some c52 => (match c52[0]? with | some x53 => (match x53 with | .v (.int q55 n54) => (if q55 = .i64 then (match F19_d N (x.2.2.2.1, n54) with | some y56 => (match F20_d N (x.2.2.2.1, n54) with | some y57 => (match (y56.2.1 != y57.2.1) with | true => (ke (.inl (x.1, x.2.1, x.2.2.1, x.2.2.2.1, x.2.2.2.2.1, x.2.2.2.2.2.2.1, x.2.2.2.2.2.2.2.1, x.2.2.2.2.2.2.2.2.1, false, x.2.2.2.2.2.2.2.2.2.1, x.2.2.2.2.2.2.2.2.2.2.1, x.2.2.2.2.2.2.2.2.2.2.2.2.2.1, x.2.2.2.2.2.2.2.2.2.2.2.2.2.2))) | false => (match (y56.2.2 != y57.2.2) with | true => (ke (.inl (x.1, x.2.1, x.2.2.1, x.2.2.2.1, x.2.2.2.2.1, x.2.2.2.2.2.2.1, x.2.2.2.2.2.2.2.1, x.2.2.2.2.2.2.2.2.1, false, x.2.2.2.2.2.2.2.2.2.1, x.2.2.2.2.2.2.2.2.2.2.1, x.2.2.2.2.2.2.2.2.2.2.2.2.2.1, x.2.2.2.2.2.2.2.2.2.2.2.2.2.2))) | false => (match F15_d N (y56.1, y57.1) with | some y58 => (match (!y58) with | true => (ke (.inl (x.1, x.2.1, x.2.2.1, x.2.2.2.1, x.2.2.2.2.1, x.2.2.2.2.2.2.1, x.2.2.2.2.2.2.2.1, x.2.2.2.2.2.2.2.2.1, false, x.2.2.2.2.2.2.2.2.2.1, x.2.2.2.2.2.2.2.2.2.2.1, x.2.2.2.2.2.2.2.2.2.2.2.2.2.1, x.2.2.2.2.2.2.2.2.2.2.2.2.2.2))) | false => (kn (x.1, x.2.1, x.2.2.1, x.2.2.2.1, x.2.2.2.2.1, x.2.2.2.2.2.1, x.2.2.2.2.2.2.1, x.2.2.2.2.2.2.2.1, x.2.2.2.2.2.2.2.2.1, x.2.2.2.2.2.2.2.2.2.1, x.2.2.2.2.2.2.2.2.2.2.1, x.2.2.2.2.2.2.2.2.2.2.2.1, (i64 (x.2.2.2.2.2.2.2.2.2.2.2.2.1 + 1)), x.2.2.2.2.2.2.2.2.2.2.2.2.2.1, x.2.2.2.2.2.2.2.2.2.2.2.2.2.2))) | none => none))) | none => none) | none => none) else none) | _ => none) | none => none) | none => none) else none) | false => (ke (.inr (x.1, x.2.1, x.2.2.1, x.2.2.2.1, x.2.2.2.2.1, x.2.2.2.2.2.2.1, x.2.2.2.2.2.2.2.1, x.2.2.2.2.2.2.2.2.1, x.2.2.2.2.2.2.2.2.2.1, x.2.2.2.2.2.2.2.2.2.2.1, x.2.2.2.2.2.2.2.2.2.2.2.2.2.1, x.2.2.2.2.2.2.2.2.2.2.2.2.2.2))))
noncomputable abbrev F3_d42 (N : Nat) (x : (List (List AV)) × (List (List AV)) × (List (List AV)) × (List (List AV)) × (List (List AV)) × (List (List AV)) × Int × Int × ByteArray × Int × Int × Int × Int × (List (List AV)) × Int) : Option (((List (List AV)) × (List (List AV)) × (List (List AV)) × (List (List AV)) × (List (List AV)) × Int × Int × ByteArray × Bool × Int × Int × (List (List AV)) × Int) ⊕ ((List (List AV)) × (List (List AV)) × (List (List AV)) × (List (List AV)) × (List (List AV)) × Int × Int × ByteArray × Int × Int × (List (List AV)) × Int)) := (F3_l42 N).L N x
noncomputable def F3_l23 (N : Nat) : LSpec where
  X := (List (List AV)) × (List (List AV)) × (List (List AV)) × (List (List AV)) × (List (List AV)) × (List (List AV)) × Int × Int × ByteArray × Int × Int × Int × Int × (List (List AV)) × Int
  Y := ((List (List AV)) × (List (List AV)) × (List (List AV)) × (List (List AV)) × (List (List AV)) × Int × Int × ByteArray × Bool × Int × Int × (List (List AV)) × Int) ⊕ ((List (List AV)) × (List (List AV)) × (List (List AV)) × (List (List AV)) × (List (List AV)) × Int × Int × ByteArray × Int × Int × (List (List AV)) × Int)
  p := fun s => match s.env.length, s.nin, s.at 12, s.at 13, s.at 14, s.at 17, s.at 112, s.at 120, s.at 2, s.at 3, s.at 4, s.at 11, s.at 113, s.at 114, s.at 121, s.at 122, s.bx 87 with
    | 420, 0, (AV.list 1 a0 none), (AV.list 1 a1 none), (AV.list 1 a2 none), (AV.list 1 a3 none), (AV.list 1 a4 none), (AV.list 1 a5 none), (AV.v (.int .i64 a6)), (AV.v (.int .i64 a7)), (AV.v (.string a8)), (AV.ptr 87 0), (AV.v (.int .i64 a9)), (AV.v (.int .i64 a10)), (AV.v (.int .i64 a11)), (AV.v (.int .i64 a12)), some [(AV.list 1 a13 none), (AV.v (.int .i64 a14))] => some (a0, a1, a2, a3, a4, a5, a6, a7, a8, a9, a10, a11, a12, a13, a14)
    | _, _, _, _, _, _, _, _, _, _, _, _, _, _, _, _, _ => none
  st := fun x => mkS 420 [(12, (AV.list 1 x.1 none)), (13, (AV.list 1 x.2.1 none)), (14, (AV.list 1 x.2.2.1 none)), (17, (AV.list 1 x.2.2.2.1 none)), (112, (AV.list 1 x.2.2.2.2.1 none)), (120, (AV.list 1 x.2.2.2.2.2.1 none)), (2, (AV.v (.int .i64 x.2.2.2.2.2.2.1))), (3, (AV.v (.int .i64 x.2.2.2.2.2.2.2.1))), (4, (AV.v (.string x.2.2.2.2.2.2.2.2.1))), (11, (AV.ptr 87 0)), (113, (AV.v (.int .i64 x.2.2.2.2.2.2.2.2.2.1))), (114, (AV.v (.int .i64 x.2.2.2.2.2.2.2.2.2.2.1))), (121, (AV.v (.int .i64 x.2.2.2.2.2.2.2.2.2.2.2.1))), (122, (AV.v (.int .i64 x.2.2.2.2.2.2.2.2.2.2.2.2.1)))] [(87, [(AV.list 1 x.2.2.2.2.2.2.2.2.2.2.2.2.2.1 none), (AV.v (.int .i64 x.2.2.2.2.2.2.2.2.2.2.2.2.2.2))])] (F3_an 23).1.toks 0
  out := fun y => match y with
    | .inl y => (.ret, mkS 420 [(12, (AV.list 1 y.1 none)), (13, (AV.list 1 y.2.1 none)), (14, (AV.list 1 y.2.2.1 none)), (17, (AV.list 1 y.2.2.2.1 none)), (112, (AV.list 1 y.2.2.2.2.1 none)), (2, (AV.v (.int .i64 y.2.2.2.2.2.1))), (3, (AV.v (.int .i64 y.2.2.2.2.2.2.1))), (4, (AV.v (.string y.2.2.2.2.2.2.2.1))), (10, (AV.v (.bool y.2.2.2.2.2.2.2.2.1))), (11, (AV.ptr 87 0)), (113, (AV.v (.int .i64 y.2.2.2.2.2.2.2.2.2.1))), (114, (AV.v (.int .i64 y.2.2.2.2.2.2.2.2.2.2.1)))] [(87, [(AV.list 1 y.2.2.2.2.2.2.2.2.2.2.2.1 none), (AV.v (.int .i64 y.2.2.2.2.2.2.2.2.2.2.2.2))])] (F3_an 23).2.toks 0)
    | .inr y => (.exit 2, mkS 420 [(12, (AV.list 1 y.1 none)), (13, (AV.list 1 y.2.1 none)), (14, (AV.list 1 y.2.2.1 none)), (17, (AV.list 1 y.2.2.2.1 none)), (112, (AV.list 1 y.2.2.2.2.1 none)), (2, (AV.v (.int .i64 y.2.2.2.2.2.1))), (3, (AV.v (.int .i64 y.2.2.2.2.2.2.1))), (4, (AV.v (.string y.2.2.2.2.2.2.2.1))), (11, (AV.ptr 87 0)), (113, (AV.v (.int .i64 y.2.2.2.2.2.2.2.2.1))), (114, (AV.v (.int .i64 y.2.2.2.2.2.2.2.2.2.1)))] [(87, [(AV.list 1 y.2.2.2.2.2.2.2.2.2.2.1 none), (AV.v (.int .i64 y.2.2.2.2.2.2.2.2.2.2.2))])] (F3_an 23).2.toks 0)
  sp := fun y α k => match y with
    | .inl y => k (.ret, mkS 420 [(12, (AV.list 1 y.1 none)), (13, (AV.list 1 y.2.1 none)), (14, (AV.list 1 y.2.2.1 none)), (17, (AV.list 1 y.2.2.2.1 none)), (112, (AV.list 1 y.2.2.2.2.1 none)), (2, (AV.v (.int .i64 y.2.2.2.2.2.1))), (3, (AV.v (.int .i64 y.2.2.2.2.2.2.1))), (4, (AV.v (.string y.2.2.2.2.2.2.2.1))), (10, (AV.v (.bool y.2.2.2.2.2.2.2.2.1))), (11, (AV.ptr 87 0)), (113, (AV.v (.int .i64 y.2.2.2.2.2.2.2.2.2.1))), (114, (AV.v (.int .i64 y.2.2.2.2.2.2.2.2.2.2.1)))] [(87, [(AV.list 1 y.2.2.2.2.2.2.2.2.2.2.2.1 none), (AV.v (.int .i64 y.2.2.2.2.2.2.2.2.2.2.2.2))])] (F3_an 23).2.toks 0)
    | .inr y => k (.exit 2, mkS 420 [(12, (AV.list 1 y.1 none)), (13, (AV.list 1 y.2.1 none)), (14, (AV.list 1 y.2.2.1 none)), (17, (AV.list 1 y.2.2.2.1 none)), (112, (AV.list 1 y.2.2.2.2.1 none)), (2, (AV.v (.int .i64 y.2.2.2.2.2.1))), (3, (AV.v (.int .i64 y.2.2.2.2.2.2.1))), (4, (AV.v (.string y.2.2.2.2.2.2.2.1))), (11, (AV.ptr 87 0)), (113, (AV.v (.int .i64 y.2.2.2.2.2.2.2.2.1))), (114, (AV.v (.int .i64 y.2.2.2.2.2.2.2.2.2.1)))] [(87, [(AV.list 1 y.2.2.2.2.2.2.2.2.2.2.1 none), (AV.v (.int .i64 y.2.2.2.2.2.2.2.2.2.2.2))])] (F3_an 23).2.toks 0)
  spe := fun y α k => by rcases y with _ | _ <;> rfl
  b := fun x α kn ke => (match (decide (x.2.2.2.2.2.2.2.2.2.2.2.2.1 < x.2.2.2.2.2.2.2.2.2.2.2.1)) with | true => (if 0 ≤ x.2.2.2.2.2.2.2.2.2.2.2.2.1 then (match x.2.2.2.2.2.1[x.2.2.2.2.2.2.2.2.2.2.2.2.1.toNat]? with | some c27 => (match c27[0]? with | some x28 => (match lstOf 1 x28 with | some l29 => (match F9_d N (x.2.2.2.1, l29) with | some y30 => (match F10_d N (x.2.2.2.1, l29) with | some y31 => (match F11_d N (x.2.2.2.1, l29) with | some y32 => (match F12_d N (x.2.2.2.1, l29) with | some y33 => (match F13_d N (x.2.2.2.1, l29) with | some y34 => (match F14_d N (x.2.2.2.1, l29) with | some y35 => (match (y30.2 != y31.2) with | true => (ke (.inl (x.1, x.2.1, x.2.2.1, x.2.2.2.1, x.2.2.2.2.1, x.2.2.2.2.2.2.1, x.2.2.2.2.2.2.2.1, x.2.2.2.2.2.2.2.2.1, false, x.2.2.2.2.2.2.2.2.2.1, x.2.2.2.2.2.2.2.2.2.2.1, x.2.2.2.2.2.2.2.2.2.2.2.2.2.1, x.2.2.2.2.2.2.2.2.2.2.2.2.2.2))) | false => (match F15_d N (y30.1, y31.1) with | some y36 => (match (!y36) with | true => (ke (.inl (x.1, x.2.1, x.2.2.1, x.2.2.2.1, x.2.2.2.2.1, x.2.2.2.2.2.2.1, x.2.2.2.2.2.2.2.1, x.2.2.2.2.2.2.2.2.1, false, x.2.2.2.2.2.2.2.2.2.1, x.2.2.2.2.2.2.2.2.2.2.1, x.2.2.2.2.2.2.2.2.2.2.2.2.2.1, x.2.2.2.2.2.2.2.2.2.2.2.2.2.2))) | false => (match (y32.2 != y33.2) with | true => (ke (.inl (x.1, x.2.1, x.2.2.1, x.2.2.2.1, x.2.2.2.2.1, x.2.2.2.2.2.2.1, x.2.2.2.2.2.2.2.1, x.2.2.2.2.2.2.2.2.1, false, x.2.2.2.2.2.2.2.2.2.1, x.2.2.2.2.2.2.2.2.2.2.1, x.2.2.2.2.2.2.2.2.2.2.2.2.2.1, x.2.2.2.2.2.2.2.2.2.2.2.2.2.2))) | false => (match F15_d N (y32.1, y33.1) with | some y37 => (match (!y37) with | true => (ke (.inl (x.1, x.2.1, x.2.2.1, x.2.2.2.1, x.2.2.2.2.1, x.2.2.2.2.2.2.1, x.2.2.2.2.2.2.2.1, x.2.2.2.2.2.2.2.2.1, false, x.2.2.2.2.2.2.2.2.2.1, x.2.2.2.2.2.2.2.2.2.2.1, x.2.2.2.2.2.2.2.2.2.2.2.2.2.1, x.2.2.2.2.2.2.2.2.2.2.2.2.2.2))) | false => (match (y34.2 != y35.2) with | true => (ke (.inl (x.1, x.2.1, x.2.2.1, x.2.2.2.1, x.2.2.2.2.1, x.2.2.2.2.2.2.1, x.2.2.2.2.2.2.2.1, x.2.2.2.2.2.2.2.2.1, false, x.2.2.2.2.2.2.2.2.2.1, x.2.2.2.2.2.2.2.2.2.2.1, x.2.2.2.2.2.2.2.2.2.2.2.2.2.1, x.2.2.2.2.2.2.2.2.2.2.2.2.2.2))) | false => (match F15_d N (y34.1, y35.1) with | some y38 => (match (!y38) with | true => (ke (.inl (x.1, x.2.1, x.2.2.1, x.2.2.2.1, x.2.2.2.2.1, x.2.2.2.2.2.2.1, x.2.2.2.2.2.2.2.1, x.2.2.2.2.2.2.2.2.1, false, x.2.2.2.2.2.2.2.2.2.1, x.2.2.2.2.2.2.2.2.2.2.1, x.2.2.2.2.2.2.2.2.2.2.2.2.2.1, x.2.2.2.2.2.2.2.2.2.2.2.2.2.2))) | false => (match F16_d N (x.2.2.2.1, l29) with | some y39 => (match F17_d N (x.2.2.2.1, l29) with | some y40 => (match (y39 != y40) with | true => (ke (.inl (x.1, x.2.1, x.2.2.1, x.2.2.2.1, x.2.2.2.2.1, x.2.2.2.2.2.2.1, x.2.2.2.2.2.2.2.1, x.2.2.2.2.2.2.2.2.1, false, x.2.2.2.2.2.2.2.2.2.1, x.2.2.2.2.2.2.2.2.2.2.1, x.2.2.2.2.2.2.2.2.2.2.2.2.2.1, x.2.2.2.2.2.2.2.2.2.2.2.2.2.2))) | false => (kn (x.1, x.2.1, x.2.2.1, x.2.2.2.1, x.2.2.2.2.1, x.2.2.2.2.2.1, x.2.2.2.2.2.2.1, x.2.2.2.2.2.2.2.1, x.2.2.2.2.2.2.2.2.1, x.2.2.2.2.2.2.2.2.2.1, x.2.2.2.2.2.2.2.2.2.2.1, x.2.2.2.2.2.2.2.2.2.2.2.1, (i64 (x.2.2.2.2.2.2.2.2.2.2.2.2.1 + 1)), x.2.2.2.2.2.2.2.2.2.2.2.2.2.1, x.2.2.2.2.2.2.2.2.2.2.2.2.2.2))) | none => none) | none => none)) | none => none))) | none => none))) | none => none)) | none => none) | none => none) | none => none) | none => none) | none => none) | none => none) | none => none) | none => none) | none => none) else none) | false => (ke (.inr (x.1, x.2.1, x.2.2.1, x.2.2.2.1, x.2.2.2.2.1, x.2.2.2.2.2.2.1, x.2.2.2.2.2.2.2.1, x.2.2.2.2.2.2.2.2.1, x.2.2.2.2.2.2.2.2.2.1, x.2.2.2.2.2.2.2.2.2.2.1, x.2.2.2.2.2.2.2.2.2.2.2.2.2.1, x.2.2.2.2.2.2.2.2.2.2.2.2.2.2))))
noncomputable abbrev F3_d23 (N : Nat) (x : (List (List AV)) × (List (List AV)) × (List (List AV)) × (List (List AV)) × (List (List AV)) × (List (List AV)) × Int × Int × ByteArray × Int × Int × Int × Int × (List (List AV)) × Int) : Option (((List (List AV)) × (List (List AV)) × (List (List AV)) × (List (List AV)) × (List (List AV)) × Int × Int × ByteArray × Bool × Int × Int × (List (List AV)) × Int) ⊕ ((List (List AV)) × (List (List AV)) × (List (List AV)) × (List (List AV)) × (List (List AV)) × Int × Int × ByteArray × Int × Int × (List (List AV)) × Int)) := (F3_l23 N).L N x
noncomputable def F3_l13 (N : Nat) : LSpec where
  X := (List (List AV)) × (List (List AV)) × (List (List AV)) × (List (List AV)) × Int × Int × ByteArray × Int × Int × (List (List AV)) × Int
  Y := (Int × Bool) ⊕ (Int)
  p := fun s => match s.env.length, s.nin, s.at 12, s.at 13, s.at 14, s.at 112, s.at 2, s.at 3, s.at 4, s.at 11, s.at 113, s.at 114, s.bx 87 with
    | 420, 0, (AV.list 1 a0 none), (AV.list 1 a1 none), (AV.list 1 a2 none), (AV.list 1 a3 none), (AV.v (.int .i64 a4)), (AV.v (.int .i64 a5)), (AV.v (.string a6)), (AV.ptr 87 0), (AV.v (.int .i64 a7)), (AV.v (.int .i64 a8)), some [(AV.list 1 a9 none), (AV.v (.int .i64 a10))] => some (a0, a1, a2, a3, a4, a5, a6, a7, a8, a9, a10)
    | _, _, _, _, _, _, _, _, _, _, _, _, _ => none
  st := fun x => mkS 420 [(12, (AV.list 1 x.1 none)), (13, (AV.list 1 x.2.1 none)), (14, (AV.list 1 x.2.2.1 none)), (112, (AV.list 1 x.2.2.2.1 none)), (2, (AV.v (.int .i64 x.2.2.2.2.1))), (3, (AV.v (.int .i64 x.2.2.2.2.2.1))), (4, (AV.v (.string x.2.2.2.2.2.2.1))), (11, (AV.ptr 87 0)), (113, (AV.v (.int .i64 x.2.2.2.2.2.2.2.1))), (114, (AV.v (.int .i64 x.2.2.2.2.2.2.2.2.1)))] [(87, [(AV.list 1 x.2.2.2.2.2.2.2.2.2.1 none), (AV.v (.int .i64 x.2.2.2.2.2.2.2.2.2.2))])] (F3_an 13).1.toks 0
  out := fun y => match y with
    | .inl y => (.ret, mkS 420 [(3, (AV.v (.int .i64 y.1))), (10, (AV.v (.bool y.2)))] [] (F3_an 13).2.toks 0)
    | .inr y => (.exit 0, mkS 420 [(3, (AV.v (.int .i64 y)))] [] (F3_an 13).2.toks 0)
  sp := fun y α k => match y with
    | .inl y => k (.ret, mkS 420 [(3, (AV.v (.int .i64 y.1))), (10, (AV.v (.bool y.2)))] [] (F3_an 13).2.toks 0)
    | .inr y => k (.exit 0, mkS 420 [(3, (AV.v (.int .i64 y)))] [] (F3_an 13).2.toks 0)
  spe := fun y α k => by rcases y with _ | _ <;> rfl
  b := fun x α kn ke => (match (decide (x.2.2.2.2.2.2.2.2.1 < x.2.2.2.2.2.2.2.1)) with | true => (if 0 ≤ x.2.2.2.2.2.2.2.2.1 then (match x.2.2.2.1[x.2.2.2.2.2.2.2.2.1.toNat]? with | some c10 => (match c10[0]? with | some x11 => (match lstOf 1 x11 with | some l12 => (match F3_d23 N (x.1, x.2.1, x.2.2.1, l12, x.2.2.2.1, [[(AV.list 1 x.2.1 none)], [(AV.list 1 x.2.2.1 none)]], x.2.2.2.2.1, x.2.2.2.2.2.1, x.2.2.2.2.2.2.1, x.2.2.2.2.2.2.2.1, x.2.2.2.2.2.2.2.2.1, ([[(AV.list 1 x.2.1 none)], [(AV.list 1 x.2.2.1 none)]].length : Int), 0, x.2.2.2.2.2.2.2.2.2.1, x.2.2.2.2.2.2.2.2.2.2) with | some y41 => (match y41 with | .inl z42 => (ke (.inl (z42.2.2.2.2.2.2.1, z42.2.2.2.2.2.2.2.2.1))) | .inr z43 => (match F18_d N (1000, z43.2.2.2.2.2.2.2.2.2.2.1, z43.2.2.2.2.2.2.2.2.2.2.2) with | some y44 => (match F3_d42 N (z43.1, z43.2.1, z43.2.2.1, z43.2.2.2.1, z43.2.2.2.2.1, [[(AV.v (.int .i64 z43.2.2.2.2.2.1))], [(AV.v (.int .i64 (i64 (1 + y44.1))))], [(AV.v (.int .i64 1073741823))], [(AV.v (.int .i64 1073741824))]], z43.2.2.2.2.2.1, z43.2.2.2.2.2.2.1, z43.2.2.2.2.2.2.2.1, z43.2.2.2.2.2.2.2.2.1, z43.2.2.2.2.2.2.2.2.2.1, ([[(AV.v (.int .i64 z43.2.2.2.2.2.1))], [(AV.v (.int .i64 (i64 (1 + y44.1))))], [(AV.v (.int .i64 1073741823))], [(AV.v (.int .i64 1073741824))]].length : Int), 0, y44.2.1, y44.2.2) with | some y59 => (match y59 with | .inl z60 => (ke (.inl (z60.2.2.2.2.2.2.1, z60.2.2.2.2.2.2.2.2.1))) | .inr z61 => (match F21_d N z61.2.2.2.1 with | some y62 => (match F22_d N z61.2.2.2.1 with | some y63 => (match F23_d N z61.2.2.2.1 with | some y64 => (match F24_d N z61.2.2.2.1 with | some y65 => (match (y62.1 != y63.1) with | true => (ke (.inl (z61.2.2.2.2.2.2.1, false))) | false => (match (y62.2 != y63.2) with | true => (ke (.inl (z61.2.2.2.2.2.2.1, false))) | false => (match (!(y64.1.toList == y65.1.toList)) with | true => (ke (.inl (z61.2.2.2.2.2.2.1, false))) | false => (match (y64.2 != y65.2) with | true => (ke (.inl (z61.2.2.2.2.2.2.1, false))) | false => (match F25_d N z61.2.2.2.1 with | some y66 => (match F26_d N z61.2.2.2.1 with | some y67 => (match (!(y66 == y67)) with | true => (ke (.inl (z61.2.2.2.2.2.2.1, false))) | false => (if (⟨#[48]⟩ : ByteArray).size + y64.1.size ≤ 9223372036854775807 then (if y64.1.size + (⟨#[120]⟩ : ByteArray).size ≤ 9223372036854775807 then (match F3_d65 N (z61.1, z61.2.1, z61.2.2.1, z61.2.2.2.1, z61.2.2.2.2.1, [[(AV.v (.string z61.2.2.2.2.2.2.2.1))], [(AV.v (.string y64.1))], [(AV.v (.string ((⟨#[48]⟩ : ByteArray) ++ y64.1)))], [(AV.v (.string (y64.1 ++ (⟨#[120]⟩ : ByteArray))))]], z61.2.2.2.2.2.1, z61.2.2.2.2.2.2.1, z61.2.2.2.2.2.2.2.1, z61.2.2.2.2.2.2.2.2.1, z61.2.2.2.2.2.2.2.2.2.1, ([[(AV.v (.string z61.2.2.2.2.2.2.2.1))], [(AV.v (.string y64.1))], [(AV.v (.string ((⟨#[48]⟩ : ByteArray) ++ y64.1)))], [(AV.v (.string (y64.1 ++ (⟨#[120]⟩ : ByteArray))))]].length : Int), 0, z61.2.2.2.2.2.2.2.2.2.2.1, z61.2.2.2.2.2.2.2.2.2.2.2) with | some y80 => (match y80 with | .inl z81 => (ke (.inl (z81.2.2.2.2.2.2.1, z81.2.2.2.2.2.2.2.2.1))) | .inr z82 => (match F7_d N (3, z82.2.2.2.2.2.2.2.2.2.2.1, z82.2.2.2.2.2.2.2.2.2.2.2) with | some y83 => (match F29_d N (z82.2.2.2.1, z82.2.1, z82.1, y83.1) with | some y84 => (match F30_d N (z82.2.2.2.1, z82.2.1, z82.1, y83.1) with | some y85 => (match F31_d N (z82.2.2.2.1, z82.2.1, z82.1, y83.1) with | some y86 => (match F32_d N (z82.2.2.2.1, z82.2.1, z82.1, y83.1) with | some y87 => (match F33_d N (z82.2.2.2.1, z82.2.1, z82.1, y83.1) with | some y88 => (match F34_d N (z82.2.2.2.1, z82.2.1, z82.1, y83.1) with | some y89 => (match (!(y84.1 == y85.1)) with | true => (ke (.inl (z82.2.2.2.2.2.2.1, false))) | false => (match (y84.2 != y85.2) with | true => (ke (.inl (z82.2.2.2.2.2.2.1, false))) | false => (match (!(y86.1 == y87.1)) with | true => (ke (.inl (z82.2.2.2.2.2.2.1, false))) | false => (match (y86.2 != y87.2) with | true => (ke (.inl (z82.2.2.2.2.2.2.1, false))) | false => (match (y88.2.2 != y89.2.2) with | true => (ke (.inl (z82.2.2.2.2.2.2.1, false))) | false => (match F35_d N (y88.1, y88.2.1, y89.1, y89.2.1) with | some y90 => (match (!y90) with | true => (ke (.inl (z82.2.2.2.2.2.2.1, false))) | false => (match F36_d N (z82.2.2.2.1, z82.2.1) with | some y91 => (match F37_d N (z82.2.2.2.1, z82.2.1) with | some y92 => (match (!(y91 == y92)) with | true => (ke (.inl (z82.2.2.2.2.2.2.1, false))) | false => (kn (z82.1, z82.2.1, z82.2.2.1, z82.2.2.2.2.1, z82.2.2.2.2.2.1, z82.2.2.2.2.2.2.1, z82.2.2.2.2.2.2.2.1, z82.2.2.2.2.2.2.2.2.1, (i64 (z82.2.2.2.2.2.2.2.2.2.1 + 1)), y83.2.1, y83.2.2))) | none => none) | none => none)) | none => none)))))) | none => none) | none => none) | none => none) | none => none) | none => none) | none => none) | none => none)) | none => none) else none) else none)) | none => none) | none => none))))) | none => none) | none => none) | none => none) | none => none)) | none => none) | none => none)) | none => none) | none => none) | none => none) | none => none) else none) | false => (ke (.inr x.2.2.2.2.2.1)))
noncomputable abbrev F3_d13 (N : Nat) (x : (List (List AV)) × (List (List AV)) × (List (List AV)) × (List (List AV)) × Int × Int × ByteArray × Int × Int × (List (List AV)) × Int) : Option ((Int × Bool) ⊕ (Int)) := (F3_l13 N).L N x
noncomputable def F3_s (N : Nat) : FSpec where
  X := (List (List AV)) × (List (List AV)) × Int × Int × ByteArray
  Y := Bool
  ash := [[some 1], [some 1], [none], [none], [none]]
  bsh := []
  S := ⟨[[none]], [], [], [], []⟩
  bm := false
  pat := fun a b => match a, b with
    | [(AV.list 1 a0 none), (AV.list 1 a1 none), (AV.v (.int .i64 a2)), (AV.v (.int .i64 a3)), (AV.v (.string a4))], [] => some (a0, a1, a2, a3, a4)
    | _, _ => none
  args := fun x => [(AV.list 1 x.1 none), (AV.list 1 x.2.1 none), (AV.v (.int .i64 x.2.2.1)), (AV.v (.int .i64 x.2.2.2.1)), (AV.v (.string x.2.2.2.2))]
  bs := fun x => []
  ret := fun y => ⟨(AV.v (.bool y)), [], none, [], [], []⟩
  t := fun x α k => (match F4_d N x.1 with | some y1 => (match (!y1) with | true => (match F5_d N () with | some y2 => (k y2) | none => none) | false => (match (decide ((x.2.1.length : Int) > 80)) with | true => (match F5_d N () with | some y3 => (k y3) | none => none) | false => (match (decide ((x.2.2.2.2.size : Int) > 80)) with | true => (match F5_d N () with | some y4 => (k y4) | none => none) | false => (match F6_d N x.1 with | some y5 => (match F7_d N (5, y5.1, y5.2) with | some y6 => (match F7_d N (5, y6.2.1, y6.2.2) with | some y7 => (match F8_d N ([[(AV.v (.int .i64 32))], [(AV.v (.int .i64 63))], [(AV.v (.int .i64 64))]], y7.2.1, y7.2.2) with | some y8 => (if 0 ≤ y8.1 ∧ y8.1 ≤ y8.1 ∧ y8.1.toNat * 8 ≤ maxBytes then (if 0 ≤ (i64 ((((y8.1.toNat) : Nat) : Int) - 1)) ∧ (i64 ((((y8.1.toNat) : Nat) : Int) - 1)) < ((y8.1.toNat) : Int) then (if ((0 + (i64 ((((y8.1.toNat) : Nat) : Int) - 1)).toNat) * 1) + 1 ≤ (List.replicate y8.1.toNat (AV.v (.int .i64 0))).length then (if y6.1.length * 8 ≤ maxBytes then (match F8_d N ([[(AV.v (.int .i64 0))], [(AV.v (.int .i64 (-1)))], [(AV.v (.int .i64 1073741824))], [(AV.v (.int .i64 5))]], y8.2.1, y8.2.2) with | some y9 => (if (y6.1.length + [[(AV.v (.int .i64 y9.1))]].length) * 8 ≤ maxBytes then (if (y8.1.toNat) * 1 ≤ ((List.replicate y8.1.toNat (AV.v (.int .i64 0))).set (((0 + (i64 ((((y8.1.toNat) : Nat) : Int) - 1)).toNat) * 1)) (AV.v (.int .i64 536870912))).length then (match F3_d13 N (y6.1, y7.1, (chunks (((List.replicate y8.1.toNat (AV.v (.int .i64 0))).set (((0 + (i64 ((((y8.1.toNat) : Nat) : Int) - 1)).toNat) * 1)) (AV.v (.int .i64 536870912))).take ((y8.1.toNat) * 1)) 1 (y8.1.toNat)), [[(AV.list 1 y6.1 none)], [(AV.list 1 (y6.1 ++ [[(AV.v (.int .i64 y9.1))]]) none)], [(AV.list 1 x.2.1 none)], [(AV.list 1 (chunks (((List.replicate y8.1.toNat (AV.v (.int .i64 0))).set (((0 + (i64 ((((y8.1.toNat) : Nat) : Int) - 1)).toNat) * 1)) (AV.v (.int .i64 536870912))).take ((y8.1.toNat) * 1)) 1 (y8.1.toNat)) none)]], x.2.2.1, x.2.2.2.1, x.2.2.2.2, ([[(AV.list 1 y6.1 none)], [(AV.list 1 (y6.1 ++ [[(AV.v (.int .i64 y9.1))]]) none)], [(AV.list 1 x.2.1 none)], [(AV.list 1 (chunks (((List.replicate y8.1.toNat (AV.v (.int .i64 0))).set (((0 + (i64 ((((y8.1.toNat) : Nat) : Int) - 1)).toNat) * 1)) (AV.v (.int .i64 536870912))).take ((y8.1.toNat) * 1)) 1 (y8.1.toNat)) none)]].length : Int), 0, y9.2.1, y9.2.2) with | some y93 => (match y93 with | .inl z94 => (k z94.2) | .inr z95 => (match F38_d N z95 with | some y96 => (match F39_d N z95 with | some y97 => (match (y96.2 == y97.2) with | true => (match F15_d N (y96.1, y97.1) with | some y98 => (match y98 with | true => (match F5_d N () with | some y99 => (k y99) | none => none) | false => (k false)) | none => none) | false => (k false)) | none => none) | none => none)) | none => none) else none) else none) | none => none) else none) else none) else none) else none) | none => none) | none => none) | none => none) | none => none)))) | none => none)
noncomputable abbrev F3_d (N : Nat) (x : (List (List AV)) × (List (List AV)) × Int × Int × ByteArray) : Option (Bool) := (F3_s N).d x
theorem F3_par65 (N : Nat) : Par (F3_l65 N).b := by
  intro x α β kn ke kn' ke' r r' h h1 h2
  revert h
  dsimp only [F3_l65]
  (repeat' (first | (with_reducible refine par_ite ?_ ?_) | (with_reducible refine par_both ?_ ?_) | split)) <;> intro h <;> first | exact h1 _ h | exact h2 _ h | (cases h; done)
theorem F3_body65 (N : Nat) (x : (F3_l65 N).X) (α : Type) (kn : AS → Option α) (ke : Out → Option α) : around (tabOf Tryz.prog) (F3_g N) F3_an (lam N [(13, F3_l13 N), (23, F3_l23 N), (42, F3_l42 N), (65, F3_l65 N)]) 65 (bodyOf (nthLoop 65 (Tryz.f3.body.getD .skip))) ((F3_l65 N).st x) kn ke = (F3_l65 N).b x α (fun x' => kn ((F3_l65 N).st x')) (fun y => (F3_l65 N).sp y α ke) := by kernel_rfl
theorem F3_pat65 (N : Nat) (s : AS) (x : (F3_l65 N).X) (hc : s = canon (F3_an 65).1 s) (h : (F3_l65 N).p s = some x) : s = (F3_l65 N).st x := by
  dsimp only [F3_l65] at h
  split at h
  · cases h
    exact canon_mk hc ‹_› ‹_› rfl rfl rfl ⟨‹_›, ‹_›, ‹_›, ‹_›, ‹_›, ‹_›, ‹_›, ‹_›, ‹_›, ‹_›, ‹_›, ‹_›, ‹_›, ‹_›, trivial⟩ ⟨‹_›, trivial⟩
  · cases h
theorem F3_loop65 (N : Nat) : ∀ s o, s = canon (F3_an 65).1 s → (lam N [(13, F3_l13 N), (23, F3_l23 N), (42, F3_l42 N), (65, F3_l65 N)]).v 65 s = some o → LoopSem Tryz.prog (nthLoop 65 (Tryz.f3.body.getD .skip)) s o :=
  loop_ok (tabOf_ok Tryz.prog) (gam_ok _) mixed F3_an N [(13, F3_l13 N), (23, F3_l23 N), (42, F3_l42 N), (65, F3_l65 N)] 65 (bodyOf (nthLoop 65 (Tryz.f3.body.getD .skip))) (nthLoop 65 (Tryz.f3.body.getD .skip)) (by kernel_rfl) (by
    have e : actOf F3_an (bodyOf (nthLoop 65 (Tryz.f3.body.getD .skip))) (65 + 1) = [] := by kernel_rfl
    rw [e]
    intro p hp
    cases hp) (F3_l65 N) rfl (fun s x hc h => F3_pat65 N s x hc h) (fun x => rfl) (fun x α kn ke => (F3_body65 N x α kn ke).trans (congrArg ((F3_l65 N).b x α _) (funext fun y => (F3_l65 N).spe y α ke))) (F3_par65 N)
theorem F3_par42 (N : Nat) : Par (F3_l42 N).b := by
  intro x α β kn ke kn' ke' r r' h h1 h2
  revert h
  dsimp only [F3_l42]
  (repeat' (first | (with_reducible refine par_ite ?_ ?_) | (with_reducible refine par_both ?_ ?_) | split)) <;> intro h <;> first | exact h1 _ h | exact h2 _ h | (cases h; done)
theorem F3_body42 (N : Nat) (x : (F3_l42 N).X) (α : Type) (kn : AS → Option α) (ke : Out → Option α) : around (tabOf Tryz.prog) (F3_g N) F3_an (lam N [(13, F3_l13 N), (23, F3_l23 N), (42, F3_l42 N), (65, F3_l65 N)]) 42 (bodyOf (nthLoop 42 (Tryz.f3.body.getD .skip))) ((F3_l42 N).st x) kn ke = (F3_l42 N).b x α (fun x' => kn ((F3_l42 N).st x')) (fun y => (F3_l42 N).sp y α ke) := by kernel_rfl
theorem F3_pat42 (N : Nat) (s : AS) (x : (F3_l42 N).X) (hc : s = canon (F3_an 42).1 s) (h : (F3_l42 N).p s = some x) : s = (F3_l42 N).st x := by
  dsimp only [F3_l42] at h
  split at h
  · cases h
    exact canon_mk hc ‹_› ‹_› rfl rfl rfl ⟨‹_›, ‹_›, ‹_›, ‹_›, ‹_›, ‹_›, ‹_›, ‹_›, ‹_›, ‹_›, ‹_›, ‹_›, ‹_›, ‹_›, trivial⟩ ⟨‹_›, trivial⟩
  · cases h
theorem F3_loop42 (N : Nat) : ∀ s o, s = canon (F3_an 42).1 s → (lam N [(13, F3_l13 N), (23, F3_l23 N), (42, F3_l42 N), (65, F3_l65 N)]).v 42 s = some o → LoopSem Tryz.prog (nthLoop 42 (Tryz.f3.body.getD .skip)) s o :=
  loop_ok (tabOf_ok Tryz.prog) (gam_ok _) mixed F3_an N [(13, F3_l13 N), (23, F3_l23 N), (42, F3_l42 N), (65, F3_l65 N)] 42 (bodyOf (nthLoop 42 (Tryz.f3.body.getD .skip))) (nthLoop 42 (Tryz.f3.body.getD .skip)) (by kernel_rfl) (by
    have e : actOf F3_an (bodyOf (nthLoop 42 (Tryz.f3.body.getD .skip))) (42 + 1) = [] := by kernel_rfl
    rw [e]
    intro p hp
    cases hp) (F3_l42 N) rfl (fun s x hc h => F3_pat42 N s x hc h) (fun x => rfl) (fun x α kn ke => (F3_body42 N x α kn ke).trans (congrArg ((F3_l42 N).b x α _) (funext fun y => (F3_l42 N).spe y α ke))) (F3_par42 N)
theorem F3_par23 (N : Nat) : Par (F3_l23 N).b := by
  intro x α β kn ke kn' ke' r r' h h1 h2
  revert h
  dsimp only [F3_l23]
  (repeat' (first | (with_reducible refine par_ite ?_ ?_) | (with_reducible refine par_both ?_ ?_) | split)) <;> intro h <;> first | exact h1 _ h | exact h2 _ h | (cases h; done)
theorem F3_body23 (N : Nat) (x : (F3_l23 N).X) (α : Type) (kn : AS → Option α) (ke : Out → Option α) : around (tabOf Tryz.prog) (F3_g N) F3_an (lam N [(13, F3_l13 N), (23, F3_l23 N), (42, F3_l42 N), (65, F3_l65 N)]) 23 (bodyOf (nthLoop 23 (Tryz.f3.body.getD .skip))) ((F3_l23 N).st x) kn ke = (F3_l23 N).b x α (fun x' => kn ((F3_l23 N).st x')) (fun y => (F3_l23 N).sp y α ke) := by kernel_rfl
theorem F3_pat23 (N : Nat) (s : AS) (x : (F3_l23 N).X) (hc : s = canon (F3_an 23).1 s) (h : (F3_l23 N).p s = some x) : s = (F3_l23 N).st x := by
  dsimp only [F3_l23] at h
  split at h
  · cases h
    exact canon_mk hc ‹_› ‹_› rfl rfl rfl ⟨‹_›, ‹_›, ‹_›, ‹_›, ‹_›, ‹_›, ‹_›, ‹_›, ‹_›, ‹_›, ‹_›, ‹_›, ‹_›, ‹_›, trivial⟩ ⟨‹_›, trivial⟩
  · cases h
theorem F3_loop23 (N : Nat) : ∀ s o, s = canon (F3_an 23).1 s → (lam N [(13, F3_l13 N), (23, F3_l23 N), (42, F3_l42 N), (65, F3_l65 N)]).v 23 s = some o → LoopSem Tryz.prog (nthLoop 23 (Tryz.f3.body.getD .skip)) s o :=
  loop_ok (tabOf_ok Tryz.prog) (gam_ok _) mixed F3_an N [(13, F3_l13 N), (23, F3_l23 N), (42, F3_l42 N), (65, F3_l65 N)] 23 (bodyOf (nthLoop 23 (Tryz.f3.body.getD .skip))) (nthLoop 23 (Tryz.f3.body.getD .skip)) (by kernel_rfl) (by
    have e : actOf F3_an (bodyOf (nthLoop 23 (Tryz.f3.body.getD .skip))) (23 + 1) = [] := by kernel_rfl
    rw [e]
    intro p hp
    cases hp) (F3_l23 N) rfl (fun s x hc h => F3_pat23 N s x hc h) (fun x => rfl) (fun x α kn ke => (F3_body23 N x α kn ke).trans (congrArg ((F3_l23 N).b x α _) (funext fun y => (F3_l23 N).spe y α ke))) (F3_par23 N)
theorem F3_par13 (N : Nat) : Par (F3_l13 N).b := by
  intro x α β kn ke kn' ke' r r' h h1 h2
  revert h
  dsimp only [F3_l13]
  (repeat' (first | (with_reducible refine par_ite ?_ ?_) | (with_reducible refine par_both ?_ ?_) | split)) <;> intro h <;> first | exact h1 _ h | exact h2 _ h | (cases h; done)
theorem F3_body13 (N : Nat) (x : (F3_l13 N).X) (α : Type) (kn : AS → Option α) (ke : Out → Option α) : around (tabOf Tryz.prog) (F3_g N) F3_an (lam N [(13, F3_l13 N), (23, F3_l23 N), (42, F3_l42 N), (65, F3_l65 N)]) 13 (bodyOf (nthLoop 13 (Tryz.f3.body.getD .skip))) ((F3_l13 N).st x) kn ke = (F3_l13 N).b x α (fun x' => kn ((F3_l13 N).st x')) (fun y => (F3_l13 N).sp y α ke) := by kernel_rfl
theorem F3_pat13 (N : Nat) (s : AS) (x : (F3_l13 N).X) (hc : s = canon (F3_an 13).1 s) (h : (F3_l13 N).p s = some x) : s = (F3_l13 N).st x := by
  dsimp only [F3_l13] at h
  split at h
  · cases h
    exact canon_mk hc ‹_› ‹_› rfl rfl rfl ⟨‹_›, ‹_›, ‹_›, ‹_›, ‹_›, ‹_›, ‹_›, ‹_›, ‹_›, ‹_›, trivial⟩ ⟨‹_›, trivial⟩
  · cases h
theorem F3_loop13 (N : Nat) : ∀ s o, s = canon (F3_an 13).1 s → (lam N [(13, F3_l13 N), (23, F3_l23 N), (42, F3_l42 N), (65, F3_l65 N)]).v 13 s = some o → LoopSem Tryz.prog (nthLoop 13 (Tryz.f3.body.getD .skip)) s o :=
  loop_ok (tabOf_ok Tryz.prog) (gam_ok _) mixed F3_an N [(13, F3_l13 N), (23, F3_l23 N), (42, F3_l42 N), (65, F3_l65 N)] 13 (bodyOf (nthLoop 13 (Tryz.f3.body.getD .skip))) (nthLoop 13 (Tryz.f3.body.getD .skip)) (by kernel_rfl) (by
    have e : actOf F3_an (bodyOf (nthLoop 13 (Tryz.f3.body.getD .skip))) (13 + 1) = [(23, nthLoop 23 (Tryz.f3.body.getD .skip)), (42, nthLoop 42 (Tryz.f3.body.getD .skip)), (65, nthLoop 65 (Tryz.f3.body.getD .skip))] := by kernel_rfl
    rw [e]
    intro p hp
    rcases List.mem_cons.1 hp with rfl | hp
    · exact F3_loop23 N
    rcases List.mem_cons.1 hp with rfl | hp
    · exact F3_loop42 N
    rcases List.mem_cons.1 hp with rfl | hp
    · exact F3_loop65 N
    cases hp) (F3_l13 N) rfl (fun s x hc h => F3_pat13 N s x hc h) (fun x => rfl) (fun x α kn ke => (F3_body13 N x α kn ke).trans (congrArg ((F3_l13 N).b x α _) (funext fun y => (F3_l13 N).spe y α ke))) (F3_par13 N)
theorem F3_parF (N : Nat) : ParF (F3_s N).t := by
  intro x α β k k' r r' h h1
  revert h
  dsimp only [F3_s]
  (repeat' (first | (with_reducible refine par_ite ?_ ?_) | (with_reducible refine par_both ?_ ?_) | split)) <;> intro h <;> first | exact h1 _ h | (cases h; done)
theorem F3_text (N : Nat) (x : (F3_s N).X) : acall (tabOf Tryz.prog) (F3_g N) F3_an (lam N [(13, F3_l13 N), (23, F3_l23 N), (42, F3_l42 N), (65, F3_l65 N)]) Tryz.f3 (F3_s N).S ((F3_s N).args x) ((F3_s N).bs x) = (F3_s N).t x Ret (fun y => some ((F3_s N).ret y)) := by kernel_rfl
theorem F3_pat (N : Nat) (a : List AV) (b : List (List AV)) (x : (F3_s N).X) (h : (F3_s N).pat a b = some x) : a = (F3_s N).args x ∧ b = (F3_s N).bs x := by
  dsimp only [F3_s] at h
  split at h
  · cases h; exact ⟨rfl, rfl⟩
  · cases h
noncomputable def F3_e (N : Nat) : Ent Tryz.prog := entOf (tabOf_ok Tryz.prog) (gam_ok _) mixed 3 Tryz.f3 Tryz.func3 rfl F3_an (lam N [(13, F3_l13 N), (23, F3_l23 N), (42, F3_l42 N), (65, F3_l65 N)]) (by
    have e : actOf F3_an (Tryz.f3.body.getD .skip) 0 = [(13, nthLoop 13 (Tryz.f3.body.getD .skip)), (23, nthLoop 23 (Tryz.f3.body.getD .skip)), (42, nthLoop 42 (Tryz.f3.body.getD .skip)), (65, nthLoop 65 (Tryz.f3.body.getD .skip))] := by kernel_rfl
    rw [e]
    intro p hp
    rcases List.mem_cons.1 hp with rfl | hp
    · exact F3_loop13 N
    rcases List.mem_cons.1 hp with rfl | hp
    · exact F3_loop23 N
    rcases List.mem_cons.1 hp with rfl | hp
    · exact F3_loop42 N
    rcases List.mem_cons.1 hp with rfl | hp
    · exact F3_loop65 N
    cases hp) (F3_s N) (fun _ => ⟨rfl, rfl⟩) (F3_text N) (F3_pat N) (F3_parF N)
end Go.Proofs.YtlpebecbipjoaaaGreatDoor
