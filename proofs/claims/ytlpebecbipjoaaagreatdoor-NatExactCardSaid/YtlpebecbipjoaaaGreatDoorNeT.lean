/- Functions without memory. (written by sx.py) -/
import Derived.Test.YtlpebecbipjoaaaGreatDoorNaGiv
namespace Go.Proofs.YtlpebecbipjoaaaGreatDoor
open Go.RowKit
set_option linter.unusedVariables false
set_option linter.unusedSimpArgs false
set_option linter.unnecessarySimpa false
set_option maxRecDepth 4000
/-! ### seismonet/nat.trim (function 60) -/
def F60_an : Nat → Keep × Keep := anL [(3, ⟨[], [], [], [(0, 1)], [], [], [], [], false⟩, ⟨[], [], [], [(0, 1)], [], [], [], [], false⟩)]
noncomputable def F60_g (N : Nat) : GamK := gam (P := Tryz.prog) []
noncomputable def F60_l3 (N : Nat) : LSpec where
  X := (List (List AV))
  Y := ((List (List AV)))
  p := fun s => match s.env.length, s.nin, s.at 0 with
    | 21, 0, (AV.list 1 a0 none) => some a0
    | _, _, _ => none
  st := fun x => mkS 21 [(0, (AV.list 1 x none))] [] (F60_an 3).1.toks 0
  out := fun y => (.exit 0, mkS 21 [(0, (AV.list 1 y none))] [] (F60_an 3).2.toks 0)
  sp := fun y α k => k (.exit 0, mkS 21 [(0, (AV.list 1 y none))] [] (F60_an 3).2.toks 0)
  spe := fun y α k => rfl
  b := fun x α kn ke => (match (decide ((x.length : Int) > 0)) with | true => (if 0 ≤ (i64 ((x.length : Int) - 1)) then (match x[(i64 ((x.length : Int) - 1)).toNat]? with | some c1 => (match c1[0]? with | some x2 => (match x2 with | .v (.int q4 n3) => (if q4 = .i64 then (match (n3 == 0) with | true => (if 0 ≤ (i64 ((x.length : Int) - 1)) ∧ (i64 ((x.length : Int) - 1)) ≤ x.length then (kn (x.take (i64 ((x.length : Int) - 1)).toNat)) else none) | false => (ke x)) else none) | _ => none) | none => none) | none => none) else none) | false => (ke x))
noncomputable abbrev F60_d3 (N : Nat) (x : (List (List AV))) : Option (((List (List AV)))) := (F60_l3 N).L N x
noncomputable def F60_s (N : Nat) : FSpec where
  X := (List (List AV))
  Y := (List (List AV))
  ash := [[some 1]]
  bsh := []
  S := ⟨[[some 1]], [], [], [], []⟩
  bm := false
  pat := fun a b => match a, b with
    | [(AV.list 1 a0 none)], [] => some a0
    | _, _ => none
  args := fun x => [(AV.list 1 x none)]
  bs := fun x => []
  ret := fun y => ⟨(AV.list 1 y none), [], none, [], [], []⟩
  t := fun x α k => (match F60_d3 N x with | some y5 => (k y5) | none => none)
noncomputable abbrev F60_d (N : Nat) (x : (List (List AV))) : Option ((List (List AV))) := (F60_s N).d x
theorem F60_par3 (N : Nat) : Par (F60_l3 N).b := by
  intro x α β kn ke kn' ke' r r' h h1 h2
  revert h
  dsimp only [F60_l3]
  (repeat' (first | (with_reducible refine par_ite ?_ ?_) | (with_reducible refine par_both ?_ ?_) | split)) <;> intro h <;> first | exact h1 _ h | exact h2 _ h | (cases h; done)
theorem F60_body3 (N : Nat) (x : (F60_l3 N).X) (α : Type) (kn : AS → Option α) (ke : Out → Option α) : around (tabOf Tryz.prog) (F60_g N) F60_an (lam N [(3, F60_l3 N)]) 3 (bodyOf (nthLoop 3 (Tryz.f60.body.getD .skip))) ((F60_l3 N).st x) kn ke = (F60_l3 N).b x α (fun x' => kn ((F60_l3 N).st x')) (fun y => (F60_l3 N).sp y α ke) := by kernel_rfl
theorem F60_pat3 (N : Nat) (s : AS) (x : (F60_l3 N).X) (hc : s = canon (F60_an 3).1 s) (h : (F60_l3 N).p s = some x) : s = (F60_l3 N).st x := by
  dsimp only [F60_l3] at h
  split at h
  · cases h
    exact canon_mk hc ‹_› ‹_› rfl rfl rfl ⟨‹_›, trivial⟩ trivial
  · cases h
theorem F60_loop3 (N : Nat) : ∀ s o, s = canon (F60_an 3).1 s → (lam N [(3, F60_l3 N)]).v 3 s = some o → LoopSem Tryz.prog (nthLoop 3 (Tryz.f60.body.getD .skip)) s o :=
  loop_ok (tabOf_ok Tryz.prog) (gam_ok _) mixed F60_an N [(3, F60_l3 N)] 3 (bodyOf (nthLoop 3 (Tryz.f60.body.getD .skip))) (nthLoop 3 (Tryz.f60.body.getD .skip)) (by kernel_rfl) (by
    have e : actOf F60_an (bodyOf (nthLoop 3 (Tryz.f60.body.getD .skip))) (3 + 1) = [] := by kernel_rfl
    rw [e]
    intro p hp
    cases hp) (F60_l3 N) rfl (fun s x hc h => F60_pat3 N s x hc h) (fun x => rfl) (fun x α kn ke => (F60_body3 N x α kn ke).trans (congrArg ((F60_l3 N).b x α _) (funext fun y => (F60_l3 N).spe y α ke))) (F60_par3 N)
theorem F60_parF (N : Nat) : ParF (F60_s N).t := by
  intro x α β k k' r r' h h1
  revert h
  dsimp only [F60_s]
  (repeat' (first | (with_reducible refine par_ite ?_ ?_) | (with_reducible refine par_both ?_ ?_) | split)) <;> intro h <;> first | exact h1 _ h | (cases h; done)
theorem F60_text (N : Nat) (x : (F60_s N).X) : acall (tabOf Tryz.prog) (F60_g N) F60_an (lam N [(3, F60_l3 N)]) Tryz.f60 (F60_s N).S ((F60_s N).args x) ((F60_s N).bs x) = (F60_s N).t x Ret (fun y => some ((F60_s N).ret y)) := by kernel_rfl
theorem F60_pat (N : Nat) (a : List AV) (b : List (List AV)) (x : (F60_s N).X) (h : (F60_s N).pat a b = some x) : a = (F60_s N).args x ∧ b = (F60_s N).bs x := by
  dsimp only [F60_s] at h
  split at h
  · cases h; exact ⟨rfl, rfl⟩
  · cases h
noncomputable def F60_e (N : Nat) : Ent Tryz.prog := entOf (tabOf_ok Tryz.prog) (gam_ok _) mixed 60 Tryz.f60 Tryz.func60 rfl F60_an (lam N [(3, F60_l3 N)]) (by
    have e : actOf F60_an (Tryz.f60.body.getD .skip) 0 = [(3, nthLoop 3 (Tryz.f60.body.getD .skip))] := by kernel_rfl
    rw [e]
    intro p hp
    rcases List.mem_cons.1 hp with rfl | hp
    · exact F60_loop3 N
    cases hp) (F60_s N) (fun _ => ⟨rfl, rfl⟩) (F60_text N) (F60_pat N) (F60_parF N)
/-! ### seismonet/nat.limited (function 42) -/
def F42_an : Nat → Keep × Keep := anL []
noncomputable def F42_g (N : Nat) : GamK := gam (P := Tryz.prog) [F60_e N]
noncomputable def F42_s (N : Nat) : FSpec where
  X := (List (List AV))
  Y := (List (List AV)) × Int
  ash := [[some 1]]
  bsh := []
  S := ⟨[[some 1], [none]], [], [], [], []⟩
  bm := false
  pat := fun a b => match a, b with
    | [(AV.list 1 a0 none)], [] => some a0
    | _, _ => none
  args := fun x => [(AV.list 1 x none)]
  bs := fun x => []
  ret := fun y => ⟨(AV.tup [(AV.list 1 y.1 none), (AV.v (.int .i64 y.2))]), [], none, [], [], []⟩
  t := fun x α k => (match F60_d N x with | some y1 => (match (decide ((y1.length : Int) > 64)) with | true => (k (([] : List (List AV)), 8)) | false => (k (y1, 0))) | none => none)
noncomputable abbrev F42_d (N : Nat) (x : (List (List AV))) : Option ((List (List AV)) × Int) := (F42_s N).d x
theorem F42_parF (N : Nat) : ParF (F42_s N).t := by
  intro x α β k k' r r' h h1
  revert h
  dsimp only [F42_s]
  (repeat' (first | (with_reducible refine par_ite ?_ ?_) | (with_reducible refine par_both ?_ ?_) | split)) <;> intro h <;> first | exact h1 _ h | (cases h; done)
theorem F42_text (N : Nat) (x : (F42_s N).X) : acall (tabOf Tryz.prog) (F42_g N) F42_an (lam N []) Tryz.f42 (F42_s N).S ((F42_s N).args x) ((F42_s N).bs x) = (F42_s N).t x Ret (fun y => some ((F42_s N).ret y)) := by kernel_rfl
theorem F42_pat (N : Nat) (a : List AV) (b : List (List AV)) (x : (F42_s N).X) (h : (F42_s N).pat a b = some x) : a = (F42_s N).args x ∧ b = (F42_s N).bs x := by
  dsimp only [F42_s] at h
  split at h
  · cases h; exact ⟨rfl, rfl⟩
  · cases h
noncomputable def F42_e (N : Nat) : Ent Tryz.prog := entOf (tabOf_ok Tryz.prog) (gam_ok _) mixed 42 Tryz.f42 Tryz.func42 rfl F42_an (lam N []) (by
    have e : actOf F42_an (Tryz.f42.body.getD .skip) 0 = [] := by kernel_rfl
    rw [e]
    intro p hp
    cases hp) (F42_s N) (fun _ => ⟨rfl, rfl⟩) (F42_text N) (F42_pat N) (F42_parF N)
/-! ### seismonet/nat.Parse (function 27) -/
def F27_an : Nat → Keep × Keep := anF [(13, ⟨[0, 28, 29], [], [], [], [], [(4, 1)], [], [], false⟩, ⟨[], [], [], [], [], [(4, 1)], [], [], false⟩), (24, ⟨[0, 4, 6, 28, 29, 38, 39], [], [1000004], [], [], [], [], [1000004], false⟩, ⟨[0, 4, 6, 28, 29], [], [1000004], [], [], [], [], [1000004], false⟩)] [(100020, ([4], []))]
noncomputable def F27_g (N : Nat) : GamK := gam (P := Tryz.prog) [F58_e N, F42_e N]
noncomputable def F27_l24 (N : Nat) : LSpec where
  X := ByteArray × Nat × Int × Int × Int × Int × Int × (List AV)
  Y := (ByteArray × Nat × Int × Int × Int × (List AV))
  p := fun s => match s.env.length, s.nin, s.at 0, s.at 4, s.at 6, s.at 28, s.at 29, s.at 38, s.at 39, s.bx 1000004 with
    | 68, 0, (AV.v (.string a0)), (AV.vs 1000004 0 a1 1), (AV.v (.int .i64 a2)), (AV.v (.int .i64 a3)), (AV.v (.int .i64 a4)), (AV.v (.int .i64 a5)), (AV.v (.int .i64 a6)), some a7 => some (a0, a1, a2, a3, a4, a5, a6, a7)
    | _, _, _, _, _, _, _, _, _, _ => none
  st := fun x => mkS 68 [(0, (AV.v (.string x.1))), (4, (AV.vs 1000004 0 x.2.1 1)), (6, (AV.v (.int .i64 x.2.2.1))), (28, (AV.v (.int .i64 x.2.2.2.1))), (29, (AV.v (.int .i64 x.2.2.2.2.1))), (38, (AV.v (.int .i64 x.2.2.2.2.2.1))), (39, (AV.v (.int .i64 x.2.2.2.2.2.2.1)))] [(1000004, x.2.2.2.2.2.2.2)] (F27_an 24).1.toks 0
  out := fun y => (.exit 2, mkS 68 [(0, (AV.v (.string y.1))), (4, (AV.vs 1000004 0 y.2.1 1)), (6, (AV.v (.int .i64 y.2.2.1))), (28, (AV.v (.int .i64 y.2.2.2.1))), (29, (AV.v (.int .i64 y.2.2.2.2.1)))] [(1000004, y.2.2.2.2.2)] (F27_an 24).2.toks 0)
  sp := fun y α k => k (.exit 2, mkS 68 [(0, (AV.v (.string y.1))), (4, (AV.vs 1000004 0 y.2.1 1)), (6, (AV.v (.int .i64 y.2.2.1))), (28, (AV.v (.int .i64 y.2.2.2.1))), (29, (AV.v (.int .i64 y.2.2.2.2.1)))] [(1000004, y.2.2.2.2.2)] (F27_an 24).2.toks 0)
  spe := fun y α k => rfl
  b := fun x α kn ke => (match (decide (x.2.2.2.2.2.2.1 < x.2.2.2.2.2.1)) with | true => (if 0 ≤ x.2.2.2.2.2.2.1 ∧ x.2.2.2.2.2.2.1 < (x.2.1 : Int) then (match x.2.2.2.2.2.2.2[((0 + x.2.2.2.2.2.2.1.toNat) * 1)]? with | some x7 => (match x7 with | .v (.int q9 n8) => (if q9 = .i64 then (if 0 ≤ x.2.2.2.2.2.2.1 ∧ x.2.2.2.2.2.2.1 < (x.2.1 : Int) then (if ((0 + x.2.2.2.2.2.2.1.toNat) * 1) + 1 ≤ x.2.2.2.2.2.2.2.length then (kn (x.1, x.2.1, (shR .i64 (i64 (x.2.2.1 + (i64 (10 * n8)))) (30 : Int)), x.2.2.2.1, x.2.2.2.2.1, x.2.2.2.2.2.1, (i64 (x.2.2.2.2.2.2.1 + 1)), ((x.2.2.2.2.2.2.2.set (((0 + x.2.2.2.2.2.2.1.toNat) * 1)) (AV.v (.int .i64 ((i64 (x.2.2.1 + (i64 (10 * n8)))).tmod 1073741824)))).map dat0))) else none) else none) else none) | _ => none) | none => none) else none) | false => (ke (x.1, x.2.1, x.2.2.1, x.2.2.2.1, x.2.2.2.2.1, (x.2.2.2.2.2.2.2.map dat0))))
noncomputable abbrev F27_d24 (N : Nat) (x : ByteArray × Nat × Int × Int × Int × Int × Int × (List AV)) : Option ((ByteArray × Nat × Int × Int × Int × (List AV))) := (F27_l24 N).L N x
noncomputable def F27_l13 (N : Nat) : LSpec where
  X := Nat × ByteArray × Int × Int × (List AV)
  Y := (Nat × (List AV))
  p := fun s => match s.env.length, s.nin, s.at 4, s.at 0, s.at 28, s.at 29, s.bx 1000004 with
    | 68, 0, (AV.vs 1000004 0 a0 1), (AV.v (.string a1)), (AV.v (.int .i64 a2)), (AV.v (.int .i64 a3)), some a4 => some (a0, a1, a2, a3, a4)
    | _, _, _, _, _, _, _ => none
  st := fun x => mkS 68 [(4, (AV.vs 1000004 0 x.1 1)), (0, (AV.v (.string x.2.1))), (28, (AV.v (.int .i64 x.2.2.1))), (29, (AV.v (.int .i64 x.2.2.2.1)))] [(1000004, x.2.2.2.2)] (F27_an 13).1.toks 0
  out := fun y => (.exit 0, mkS 68 [(4, (AV.vs 1000004 0 y.1 1))] [(1000004, y.2)] (F27_an 13).2.toks 0)
  sp := fun y α k => k (.exit 0, mkS 68 [(4, (AV.vs 1000004 0 y.1 1))] [(1000004, y.2)] (F27_an 13).2.toks 0)
  spe := fun y α k => rfl
  b := fun x α kn ke => (match (decide (x.2.2.2.1 < x.2.2.1)) with | true => (if 0 ≤ x.2.2.2.1 then (match x.2.1[x.2.2.2.1.toNat]? with | some c3 => (match F27_d24 N (x.2.1, x.1, (IntKind.i64.wrap (IntKind.u8.wrap ((c3.toNat : Int) - 48))), x.2.2.1, x.2.2.2.1, ((x.1 : Nat) : Int), 0, (x.2.2.2.2.map dat0)) with | some y10 => (match (decide (y10.2.2.1 > 0)) with | true => (if y10.2.1 * 1 ≤ y10.2.2.2.2.2.length ∧ (y10.2.1 + [[(AV.v (.int .i64 y10.2.2.1))]].length) * 8 ≤ maxBytes then (kn ((y10.2.1 + [[(AV.v (.int .i64 y10.2.2.1))]].length), y10.1, y10.2.2.2.1, (i64 (y10.2.2.2.2.1 + 1)), ((y10.2.2.2.2.2.take (y10.2.1 * 1) ++ [[(AV.v (.int .i64 y10.2.2.1))]].flatten).map dat0))) else none) | false => (kn (y10.2.1, y10.1, y10.2.2.2.1, (i64 (y10.2.2.2.2.1 + 1)), (y10.2.2.2.2.2.map dat0)))) | none => none) | none => none) else none) | false => (ke (x.1, (x.2.2.2.2.map dat0))))
noncomputable abbrev F27_d13 (N : Nat) (x : Nat × ByteArray × Int × Int × (List AV)) : Option ((Nat × (List AV))) := (F27_l13 N).L N x
noncomputable def F27_s (N : Nat) : FSpec where
  X := ByteArray
  Y := (List (List AV)) × Int
  ash := [[none]]
  bsh := []
  S := ⟨[[some 1], [none]], [], [], [], []⟩
  bm := false
  pat := fun a b => match a, b with
    | [(AV.v (.string a0))], [] => some a0
    | _, _ => none
  args := fun x => [(AV.v (.string x))]
  bs := fun x => []
  ret := fun y => ⟨(AV.tup [(AV.list 1 y.1 none), (AV.v (.int .i64 y.2))]), [], none, [], [], []⟩
  t := fun x α k => (match (x.toList == (⟨#[]⟩ : ByteArray).toList) with | true => (k (([] : List (List AV)), 3)) | false => (if 0 ≤ (0 : Int) then (match x[(0 : Int).toNat]? with | some c1 => (match ((c1.toNat : Int) == 48) with | true => (match (!(x.toList == (⟨#[48]⟩ : ByteArray).toList)) with | true => (k (([] : List (List AV)), 3)) | false => (match F58_d N (x, (⟨#[48, 49, 50, 51, 52, 53, 54, 55, 56, 57]⟩ : ByteArray)) with | some y2 => (match (!(y2.toList == (⟨#[]⟩ : ByteArray).toList)) with | true => (k (([] : List (List AV)), 3)) | false => (match (decide ((x.size : Int) > 630)) with | true => (k (([] : List (List AV)), 8)) | false => (match F27_d13 N (0, x, (x.size : Int), 0, ([] : List AV)) with | some y11 => (if y11.1 * 1 ≤ y11.2.length then (match F42_d N (chunks (y11.2.take (y11.1 * 1)) 1 y11.1) with | some y12 => (k (y12.1, y12.2)) | none => none) else none) | none => none))) | none => none)) | false => (match F58_d N (x, (⟨#[48, 49, 50, 51, 52, 53, 54, 55, 56, 57]⟩ : ByteArray)) with | some y13 => (match (!(y13.toList == (⟨#[]⟩ : ByteArray).toList)) with | true => (k (([] : List (List AV)), 3)) | false => (match (decide ((x.size : Int) > 630)) with | true => (k (([] : List (List AV)), 8)) | false => (match F27_d13 N (0, x, (x.size : Int), 0, ([] : List AV)) with | some y14 => (if y14.1 * 1 ≤ y14.2.length then (match F42_d N (chunks (y14.2.take (y14.1 * 1)) 1 y14.1) with | some y15 => (k (y15.1, y15.2)) | none => none) else none) | none => none))) | none => none)) | none => none) else none))
noncomputable abbrev F27_d (N : Nat) (x : ByteArray) : Option ((List (List AV)) × Int) := (F27_s N).d x
theorem F27_par24 (N : Nat) : Par (F27_l24 N).b := by
  intro x α β kn ke kn' ke' r r' h h1 h2
  revert h
  dsimp only [F27_l24]
  (repeat' (first | (with_reducible refine par_ite ?_ ?_) | (with_reducible refine par_both ?_ ?_) | split)) <;> intro h <;> first | exact h1 _ h | exact h2 _ h | (cases h; done)
theorem F27_body24 (N : Nat) (x : (F27_l24 N).X) (α : Type) (kn : AS → Option α) (ke : Out → Option α) : around (tabB Tryz.prog [62]) (F27_g N) F27_an (lam N [(13, F27_l13 N), (24, F27_l24 N)]) 24 (bodyOf (nthLoop 24 (Tryz.f27.body.getD .skip))) ((F27_l24 N).st x) kn ke = (F27_l24 N).b x α (fun x' => kn ((F27_l24 N).st x')) (fun y => (F27_l24 N).sp y α ke) := by kernel_rfl
theorem F27_pat24 (N : Nat) (s : AS) (x : (F27_l24 N).X) (hc : s = canon (F27_an 24).1 s) (h : (F27_l24 N).p s = some x) : s = (F27_l24 N).st x := by
  dsimp only [F27_l24] at h
  split at h
  · cases h
    exact canon_mk hc ‹_› ‹_› rfl rfl rfl ⟨‹_›, ‹_›, ‹_›, ‹_›, ‹_›, ‹_›, ‹_›, trivial⟩ ⟨‹_›, trivial⟩
  · cases h
theorem F27_loop24 (N : Nat) : ∀ s o, s = canon (F27_an 24).1 s → (lam N [(13, F27_l13 N), (24, F27_l24 N)]).v 24 s = some o → LoopSem Tryz.prog (nthLoop 24 (Tryz.f27.body.getD .skip)) s o :=
  loop_ok (tabB_ok Tryz.prog [62]) (gam_ok _) mixed F27_an N [(13, F27_l13 N), (24, F27_l24 N)] 24 (bodyOf (nthLoop 24 (Tryz.f27.body.getD .skip))) (nthLoop 24 (Tryz.f27.body.getD .skip)) (by kernel_rfl) (by
    have e : actOf F27_an (bodyOf (nthLoop 24 (Tryz.f27.body.getD .skip))) (24 + 1) = [] := by kernel_rfl
    rw [e]
    intro p hp
    cases hp) (F27_l24 N) rfl (fun s x hc h => F27_pat24 N s x hc h) (fun x => rfl) (fun x α kn ke => (F27_body24 N x α kn ke).trans (congrArg ((F27_l24 N).b x α _) (funext fun y => (F27_l24 N).spe y α ke))) (F27_par24 N)
theorem F27_par13 (N : Nat) : Par (F27_l13 N).b := by
  intro x α β kn ke kn' ke' r r' h h1 h2
  revert h
  dsimp only [F27_l13]
  (repeat' (first | (with_reducible refine par_ite ?_ ?_) | (with_reducible refine par_both ?_ ?_) | split)) <;> intro h <;> first | exact h1 _ h | exact h2 _ h | (cases h; done)
theorem F27_body13 (N : Nat) (x : (F27_l13 N).X) (α : Type) (kn : AS → Option α) (ke : Out → Option α) : around (tabB Tryz.prog [62]) (F27_g N) F27_an (lam N [(13, F27_l13 N), (24, F27_l24 N)]) 13 (bodyOf (nthLoop 13 (Tryz.f27.body.getD .skip))) ((F27_l13 N).st x) kn ke = (F27_l13 N).b x α (fun x' => kn ((F27_l13 N).st x')) (fun y => (F27_l13 N).sp y α ke) := by kernel_rfl
theorem F27_pat13 (N : Nat) (s : AS) (x : (F27_l13 N).X) (hc : s = canon (F27_an 13).1 s) (h : (F27_l13 N).p s = some x) : s = (F27_l13 N).st x := by
  dsimp only [F27_l13] at h
  split at h
  · cases h
    exact canon_mk hc ‹_› ‹_› rfl rfl rfl ⟨‹_›, ‹_›, ‹_›, ‹_›, trivial⟩ ⟨‹_›, trivial⟩
  · cases h
theorem F27_loop13 (N : Nat) : ∀ s o, s = canon (F27_an 13).1 s → (lam N [(13, F27_l13 N), (24, F27_l24 N)]).v 13 s = some o → LoopSem Tryz.prog (nthLoop 13 (Tryz.f27.body.getD .skip)) s o :=
  loop_ok (tabB_ok Tryz.prog [62]) (gam_ok _) mixed F27_an N [(13, F27_l13 N), (24, F27_l24 N)] 13 (bodyOf (nthLoop 13 (Tryz.f27.body.getD .skip))) (nthLoop 13 (Tryz.f27.body.getD .skip)) (by kernel_rfl) (by
    have e : actOf F27_an (bodyOf (nthLoop 13 (Tryz.f27.body.getD .skip))) (13 + 1) = [(24, nthLoop 24 (Tryz.f27.body.getD .skip))] := by kernel_rfl
    rw [e]
    intro p hp
    rcases List.mem_cons.1 hp with rfl | hp
    · exact F27_loop24 N
    cases hp) (F27_l13 N) rfl (fun s x hc h => F27_pat13 N s x hc h) (fun x => rfl) (fun x α kn ke => (F27_body13 N x α kn ke).trans (congrArg ((F27_l13 N).b x α _) (funext fun y => (F27_l13 N).spe y α ke))) (F27_par13 N)
theorem F27_parF (N : Nat) : ParF (F27_s N).t := by
  intro x α β k k' r r' h h1
  revert h
  dsimp only [F27_s]
  (repeat' (first | (with_reducible refine par_ite ?_ ?_) | (with_reducible refine par_both ?_ ?_) | split)) <;> intro h <;> first | exact h1 _ h | (cases h; done)
theorem F27_text (N : Nat) (x : (F27_s N).X) : acall (tabB Tryz.prog [62]) (F27_g N) F27_an (lam N [(13, F27_l13 N), (24, F27_l24 N)]) Tryz.f27 (F27_s N).S ((F27_s N).args x) ((F27_s N).bs x) = (F27_s N).t x Ret (fun y => some ((F27_s N).ret y)) := by kernel_rfl
theorem F27_pat (N : Nat) (a : List AV) (b : List (List AV)) (x : (F27_s N).X) (h : (F27_s N).pat a b = some x) : a = (F27_s N).args x ∧ b = (F27_s N).bs x := by
  dsimp only [F27_s] at h
  split at h
  · cases h; exact ⟨rfl, rfl⟩
  · cases h
noncomputable def F27_e (N : Nat) : Ent Tryz.prog := entOf (tabB_ok Tryz.prog [62]) (gam_ok _) mixed 27 Tryz.f27 Tryz.func27 rfl F27_an (lam N [(13, F27_l13 N), (24, F27_l24 N)]) (by
    have e : actOf F27_an (Tryz.f27.body.getD .skip) 0 = [(13, nthLoop 13 (Tryz.f27.body.getD .skip)), (24, nthLoop 24 (Tryz.f27.body.getD .skip))] := by kernel_rfl
    rw [e]
    intro p hp
    rcases List.mem_cons.1 hp with rfl | hp
    · exact F27_loop13 N
    rcases List.mem_cons.1 hp with rfl | hp
    · exact F27_loop24 N
    cases hp) (F27_s N) (fun _ => ⟨rfl, rfl⟩) (F27_text N) (F27_pat N) (F27_parF N)
/-! ### seismonet/nat.Valid$1 (function 57) -/
def F57_an : Nat → Keep × Keep := anL []
noncomputable def F57_g (N : Nat) : GamK := gam (P := Tryz.prog) []
noncomputable def F57_s (N : Nat) : FSpec where
  X := Int
  Y := Bool
  ash := [[none]]
  bsh := []
  S := ⟨[[none]], [], [], [], []⟩
  bm := false
  pat := fun a b => match a, b with
    | [(AV.v (.int .i64 a0))], [] => some a0
    | _, _ => none
  args := fun x => [(AV.v (.int .i64 x))]
  bs := fun x => []
  ret := fun y => ⟨(AV.v (.bool y)), [], none, [], [], []⟩
  t := fun x α k => (match (decide (x < 0)) with | true => (k true) | false => (k (decide (x ≥ 1073741824))))
noncomputable abbrev F57_d (N : Nat) (x : Int) : Option (Bool) := (F57_s N).d x
theorem F57_parF (N : Nat) : ParF (F57_s N).t := by
  intro x α β k k' r r' h h1
  revert h
  dsimp only [F57_s]
  (repeat' (first | (with_reducible refine par_ite ?_ ?_) | (with_reducible refine par_both ?_ ?_) | split)) <;> intro h <;> first | exact h1 _ h | (cases h; done)
theorem F57_text (N : Nat) (x : (F57_s N).X) : acall (tabOf Tryz.prog) (F57_g N) F57_an (lam N []) Tryz.f57 (F57_s N).S ((F57_s N).args x) ((F57_s N).bs x) = (F57_s N).t x Ret (fun y => some ((F57_s N).ret y)) := by kernel_rfl
theorem F57_pat (N : Nat) (a : List AV) (b : List (List AV)) (x : (F57_s N).X) (h : (F57_s N).pat a b = some x) : a = (F57_s N).args x ∧ b = (F57_s N).bs x := by
  dsimp only [F57_s] at h
  split at h
  · cases h; exact ⟨rfl, rfl⟩
  · cases h
noncomputable def F57_e (N : Nat) : Ent Tryz.prog := entOf (tabOf_ok Tryz.prog) (gam_ok _) mixed 57 Tryz.f57 Tryz.func57 rfl F57_an (lam N []) (by
    have e : actOf F57_an (Tryz.f57.body.getD .skip) 0 = [] := by kernel_rfl
    rw [e]
    intro p hp
    cases hp) (F57_s N) (fun _ => ⟨rfl, rfl⟩) (F57_text N) (F57_pat N) (F57_parF N)
/-! ### slices.IndexFunc[seismonet/api.Nat,int] (function 70) -/
def F70_an : Nat → Keep × Keep := anL [(4, ⟨[1, 7, 8], [], [], [(0, 1)], [], [], [], [], false⟩, ⟨[4], [], [], [], [], [], [], [], false⟩)]
noncomputable def F70_g (N : Nat) : GamK := gam (P := Tryz.prog) [F57_e N]
noncomputable def F70_l4 (N : Nat) : LSpec where
  X := (List (List AV)) × Int × Int
  Y := (Int) ⊕ (Unit)
  p := fun s => match s.env.length, s.nin, s.at 0, s.at 1, s.at 7, s.at 8 with
    | 19, 0, (AV.list 1 a0 none), (AV.fn (.func 57) [] []), (AV.v (.int .i64 a1)), (AV.v (.int .i64 a2)) => some (a0, a1, a2)
    | _, _, _, _, _, _ => none
  st := fun x => mkS 19 [(0, (AV.list 1 x.1 none)), (1, (AV.fn (.func 57) [] [])), (7, (AV.v (.int .i64 x.2.1))), (8, (AV.v (.int .i64 x.2.2)))] [] (F70_an 4).1.toks 0
  out := fun y => match y with
    | .inl y => (.ret, mkS 19 [(4, (AV.v (.int .i64 y)))] [] (F70_an 4).2.toks 0)
    | .inr y => (.exit 0, mkS 19 [] [] (F70_an 4).2.toks 0)
  sp := fun y α k => match y with
    | .inl y => k (.ret, mkS 19 [(4, (AV.v (.int .i64 y)))] [] (F70_an 4).2.toks 0)
    | .inr y => k (.exit 0, mkS 19 [] [] (F70_an 4).2.toks 0)
  spe := fun y α k => by rcases y with _ | _ <;> rfl
  b := fun x α kn ke => (match (decide (x.2.2 < x.2.1)) with | true => (if 0 ≤ x.2.2 then (match x.1[x.2.2.toNat]? with | some c1 => (match c1[0]? with | some x2 => (match x2 with | .v (.int q4 n3) => (if q4 = .i64 then (match F57_d N n3 with | some y5 => (match y5 with | true => (ke (.inl x.2.2)) | false => (kn (x.1, x.2.1, (i64 (x.2.2 + 1))))) | none => none) else none) | _ => none) | none => none) | none => none) else none) | false => (ke (.inr ())))
noncomputable abbrev F70_d4 (N : Nat) (x : (List (List AV)) × Int × Int) : Option ((Int) ⊕ (Unit)) := (F70_l4 N).L N x
noncomputable def F70_s (N : Nat) : FSpec where
  X := (List (List AV))
  Y := Int
  ash := [[some 1], [none]]
  bsh := []
  S := ⟨[[none]], [], [], [], []⟩
  bm := false
  pat := fun a b => match a, b with
    | [(AV.list 1 a0 none), (AV.fn (.func 57) [] [])], [] => some a0
    | _, _ => none
  args := fun x => [(AV.list 1 x none), (AV.fn (.func 57) [] [])]
  bs := fun x => []
  ret := fun y => ⟨(AV.v (.int .i64 y)), [], none, [], [], []⟩
  t := fun x α k => (match F70_d4 N (x, (x.length : Int), 0) with | some y6 => (match y6 with | .inl z7 => (k z7) | .inr z8 => (k (-1))) | none => none)
noncomputable abbrev F70_d (N : Nat) (x : (List (List AV))) : Option (Int) := (F70_s N).d x
theorem F70_par4 (N : Nat) : Par (F70_l4 N).b := by
  intro x α β kn ke kn' ke' r r' h h1 h2
  revert h
  dsimp only [F70_l4]
  (repeat' (first | (with_reducible refine par_ite ?_ ?_) | (with_reducible refine par_both ?_ ?_) | split)) <;> intro h <;> first | exact h1 _ h | exact h2 _ h | (cases h; done)
theorem F70_body4 (N : Nat) (x : (F70_l4 N).X) (α : Type) (kn : AS → Option α) (ke : Out → Option α) : around (tabOf Tryz.prog) (F70_g N) F70_an (lam N [(4, F70_l4 N)]) 4 (bodyOf (nthLoop 4 (Tryz.f70.body.getD .skip))) ((F70_l4 N).st x) kn ke = (F70_l4 N).b x α (fun x' => kn ((F70_l4 N).st x')) (fun y => (F70_l4 N).sp y α ke) := by kernel_rfl
theorem F70_pat4 (N : Nat) (s : AS) (x : (F70_l4 N).X) (hc : s = canon (F70_an 4).1 s) (h : (F70_l4 N).p s = some x) : s = (F70_l4 N).st x := by
  dsimp only [F70_l4] at h
  split at h
  · cases h
    exact canon_mk hc ‹_› ‹_› rfl rfl rfl ⟨‹_›, ‹_›, ‹_›, ‹_›, trivial⟩ trivial
  · cases h
theorem F70_loop4 (N : Nat) : ∀ s o, s = canon (F70_an 4).1 s → (lam N [(4, F70_l4 N)]).v 4 s = some o → LoopSem Tryz.prog (nthLoop 4 (Tryz.f70.body.getD .skip)) s o :=
  loop_ok (tabOf_ok Tryz.prog) (gam_ok _) mixed F70_an N [(4, F70_l4 N)] 4 (bodyOf (nthLoop 4 (Tryz.f70.body.getD .skip))) (nthLoop 4 (Tryz.f70.body.getD .skip)) (by kernel_rfl) (by
    have e : actOf F70_an (bodyOf (nthLoop 4 (Tryz.f70.body.getD .skip))) (4 + 1) = [] := by kernel_rfl
    rw [e]
    intro p hp
    cases hp) (F70_l4 N) rfl (fun s x hc h => F70_pat4 N s x hc h) (fun x => rfl) (fun x α kn ke => (F70_body4 N x α kn ke).trans (congrArg ((F70_l4 N).b x α _) (funext fun y => (F70_l4 N).spe y α ke))) (F70_par4 N)
theorem F70_parF (N : Nat) : ParF (F70_s N).t := by
  intro x α β k k' r r' h h1
  revert h
  dsimp only [F70_s]
  (repeat' (first | (with_reducible refine par_ite ?_ ?_) | (with_reducible refine par_both ?_ ?_) | split)) <;> intro h <;> first | exact h1 _ h | (cases h; done)
theorem F70_text (N : Nat) (x : (F70_s N).X) : acall (tabOf Tryz.prog) (F70_g N) F70_an (lam N [(4, F70_l4 N)]) Tryz.f70 (F70_s N).S ((F70_s N).args x) ((F70_s N).bs x) = (F70_s N).t x Ret (fun y => some ((F70_s N).ret y)) := by kernel_rfl
theorem F70_pat (N : Nat) (a : List AV) (b : List (List AV)) (x : (F70_s N).X) (h : (F70_s N).pat a b = some x) : a = (F70_s N).args x ∧ b = (F70_s N).bs x := by
  dsimp only [F70_s] at h
  split at h
  · cases h; exact ⟨rfl, rfl⟩
  · cases h
noncomputable def F70_e (N : Nat) : Ent Tryz.prog := entOf (tabOf_ok Tryz.prog) (gam_ok _) mixed 70 Tryz.f70 Tryz.func70 rfl F70_an (lam N [(4, F70_l4 N)]) (by
    have e : actOf F70_an (Tryz.f70.body.getD .skip) 0 = [(4, nthLoop 4 (Tryz.f70.body.getD .skip))] := by kernel_rfl
    rw [e]
    intro p hp
    rcases List.mem_cons.1 hp with rfl | hp
    · exact F70_loop4 N
    cases hp) (F70_s N) (fun _ => ⟨rfl, rfl⟩) (F70_text N) (F70_pat N) (F70_parF N)
/-! ### slices.ContainsFunc[seismonet/api.Nat,int] (function 56) -/
def F56_an : Nat → Keep × Keep := anL []
noncomputable def F56_g (N : Nat) : GamK := gam (P := Tryz.prog) [F70_e N]
noncomputable def F56_s (N : Nat) : FSpec where
  X := (List (List AV))
  Y := Bool
  ash := [[some 1], [none]]
  bsh := []
  S := ⟨[[none]], [], [], [], []⟩
  bm := false
  pat := fun a b => match a, b with
    | [(AV.list 1 a0 none), (AV.fn (.func 57) [] [])], [] => some a0
    | _, _ => none
  args := fun x => [(AV.list 1 x none), (AV.fn (.func 57) [] [])]
  bs := fun x => []
  ret := fun y => ⟨(AV.v (.bool y)), [], none, [], [], []⟩
  t := fun x α k => (match F70_d N x with | some y1 => (k (decide (y1 ≥ 0))) | none => none)
noncomputable abbrev F56_d (N : Nat) (x : (List (List AV))) : Option (Bool) := (F56_s N).d x
theorem F56_parF (N : Nat) : ParF (F56_s N).t := by
  intro x α β k k' r r' h h1
  revert h
  dsimp only [F56_s]
  (repeat' (first | (with_reducible refine par_ite ?_ ?_) | (with_reducible refine par_both ?_ ?_) | split)) <;> intro h <;> first | exact h1 _ h | (cases h; done)
theorem F56_text (N : Nat) (x : (F56_s N).X) : acall (tabOf Tryz.prog) (F56_g N) F56_an (lam N []) Tryz.f56 (F56_s N).S ((F56_s N).args x) ((F56_s N).bs x) = (F56_s N).t x Ret (fun y => some ((F56_s N).ret y)) := by kernel_rfl
theorem F56_pat (N : Nat) (a : List AV) (b : List (List AV)) (x : (F56_s N).X) (h : (F56_s N).pat a b = some x) : a = (F56_s N).args x ∧ b = (F56_s N).bs x := by
  dsimp only [F56_s] at h
  split at h
  · cases h; exact ⟨rfl, rfl⟩
  · cases h
noncomputable def F56_e (N : Nat) : Ent Tryz.prog := entOf (tabOf_ok Tryz.prog) (gam_ok _) mixed 56 Tryz.f56 Tryz.func56 rfl F56_an (lam N []) (by
    have e : actOf F56_an (Tryz.f56.body.getD .skip) 0 = [] := by kernel_rfl
    rw [e]
    intro p hp
    cases hp) (F56_s N) (fun _ => ⟨rfl, rfl⟩) (F56_text N) (F56_pat N) (F56_parF N)
/-! ### seismonet/nat.Valid (function 25) -/
def F25_an : Nat → Keep × Keep := anL []
noncomputable def F25_g (N : Nat) : GamK := gam (P := Tryz.prog) [F56_e N]
noncomputable def F25_s (N : Nat) : FSpec where
  X := (List (List AV))
  Y := Bool
  ash := [[some 1]]
  bsh := []
  S := ⟨[[none]], [], [], [], []⟩
  bm := false
  pat := fun a b => match a, b with
    | [(AV.list 1 a0 none)], [] => some a0
    | _, _ => none
  args := fun x => [(AV.list 1 x none)]
  bs := fun x => []
  ret := fun y => ⟨(AV.v (.bool y)), [], none, [], [], []⟩
  t := fun x α k => (match (decide ((x.length : Int) > 64)) with | true => (k false) | false => (match (decide ((x.length : Int) > 0)) with | true => (if 0 ≤ (i64 ((x.length : Int) - 1)) then (match x[(i64 ((x.length : Int) - 1)).toNat]? with | some c1 => (match c1[0]? with | some x2 => (match x2 with | .v (.int q4 n3) => (if q4 = .i64 then (match (n3 == 0) with | true => (k false) | false => (match F56_d N x with | some y5 => (k (!y5)) | none => none)) else none) | _ => none) | none => none) | none => none) else none) | false => (match F56_d N x with | some y6 => (k (!y6)) | none => none)))
noncomputable abbrev F25_d (N : Nat) (x : (List (List AV))) : Option (Bool) := (F25_s N).d x
theorem F25_parF (N : Nat) : ParF (F25_s N).t := by
  intro x α β k k' r r' h h1
  revert h
  dsimp only [F25_s]
  (repeat' (first | (with_reducible refine par_ite ?_ ?_) | (with_reducible refine par_both ?_ ?_) | split)) <;> intro h <;> first | exact h1 _ h | (cases h; done)
theorem F25_text (N : Nat) (x : (F25_s N).X) : acall (tabOf Tryz.prog) (F25_g N) F25_an (lam N []) Tryz.f25 (F25_s N).S ((F25_s N).args x) ((F25_s N).bs x) = (F25_s N).t x Ret (fun y => some ((F25_s N).ret y)) := by kernel_rfl
theorem F25_pat (N : Nat) (a : List AV) (b : List (List AV)) (x : (F25_s N).X) (h : (F25_s N).pat a b = some x) : a = (F25_s N).args x ∧ b = (F25_s N).bs x := by
  dsimp only [F25_s] at h
  split at h
  · cases h; exact ⟨rfl, rfl⟩
  · cases h
noncomputable def F25_e (N : Nat) : Ent Tryz.prog := entOf (tabOf_ok Tryz.prog) (gam_ok _) mixed 25 Tryz.f25 Tryz.func25 rfl F25_an (lam N []) (by
    have e : actOf F25_an (Tryz.f25.body.getD .skip) 0 = [] := by kernel_rfl
    rw [e]
    intro p hp
    cases hp) (F25_s N) (fun _ => ⟨rfl, rfl⟩) (F25_text N) (F25_pat N) (F25_parF N)
/-! ### seismonet/nat.divide (function 49) -/
def F49_an : Nat → Keep × Keep := anF [(6, ⟨[1, 6, 7, 8], [], [11], [(0, 1)], [], [], [], [11], false⟩, ⟨[6, 7], [], [11], [], [], [], [], [11], false⟩)] [(100009, ([6], []))]
noncomputable def F49_g (N : Nat) : GamK := gam (P := Tryz.prog) [F60_e N]
noncomputable def F49_l6 (N : Nat) : LSpec where
  X := (List (List AV)) × Int × Nat × Int × Int × (List AV)
  Y := (Nat × Int × (List AV))
  p := fun s => match s.env.length, s.nin, s.at 0, s.at 1, s.at 6, s.at 7, s.at 8, s.bx 11 with
    | 38, 0, (AV.list 1 a0 none), (AV.v (.int .i64 a1)), (AV.vs 11 0 a2 1), (AV.v (.int .i64 a3)), (AV.v (.int .i64 a4)), some a5 => some (a0, a1, a2, a3, a4, a5)
    | _, _, _, _, _, _, _, _ => none
  st := fun x => mkS 38 [(0, (AV.list 1 x.1 none)), (1, (AV.v (.int .i64 x.2.1))), (6, (AV.vs 11 0 x.2.2.1 1)), (7, (AV.v (.int .i64 x.2.2.2.1))), (8, (AV.v (.int .i64 x.2.2.2.2.1)))] [(11, x.2.2.2.2.2)] (F49_an 6).1.toks 0
  out := fun y => (.exit 0, mkS 38 [(6, (AV.vs 11 0 y.1 1)), (7, (AV.v (.int .i64 y.2.1)))] [(11, y.2.2)] (F49_an 6).2.toks 0)
  sp := fun y α k => k (.exit 0, mkS 38 [(6, (AV.vs 11 0 y.1 1)), (7, (AV.v (.int .i64 y.2.1)))] [(11, y.2.2)] (F49_an 6).2.toks 0)
  spe := fun y α k => rfl
  b := fun x α kn ke => (match (decide (x.2.2.2.2.1 ≥ 0)) with | true => (if 0 ≤ x.2.2.2.2.1 then (match x.1[x.2.2.2.2.1.toNat]? with | some c5 => (match c5[0]? with | some x6 => (match x6 with | .v (.int q8 n7) => (if q8 = .i64 then (if x.2.1 = 0 then none else (if 0 ≤ x.2.2.2.2.1 ∧ x.2.2.2.2.1 < (x.2.2.1 : Int) then (if ((0 + x.2.2.2.2.1.toNat) * 1) + 1 ≤ x.2.2.2.2.2.length then (if x.2.1 = 0 then none else (kn (x.1, x.2.1, x.2.2.1, ((bOr .i64 (shL .i64 x.2.2.2.1 (30 : Int)) n7).tmod x.2.1), (i64 (x.2.2.2.2.1 - 1)), ((x.2.2.2.2.2.set (((0 + x.2.2.2.2.1.toNat) * 1)) (AV.v (.int .i64 (i64 ((bOr .i64 (shL .i64 x.2.2.2.1 (30 : Int)) n7).tdiv x.2.1))))).map dat0)))) else none) else none)) else none) | _ => none) | none => none) | none => none) else none) | false => (ke (x.2.2.1, x.2.2.2.1, (x.2.2.2.2.2.map dat0))))
noncomputable abbrev F49_d6 (N : Nat) (x : (List (List AV)) × Int × Nat × Int × Int × (List AV)) : Option ((Nat × Int × (List AV))) := (F49_l6 N).L N x
noncomputable def F49_s (N : Nat) : FSpec where
  X := (List (List AV)) × Int
  Y := (List (List AV)) × Int
  ash := [[some 1], [none]]
  bsh := []
  S := ⟨[[some 1], [none]], [], [], [], []⟩
  bm := false
  pat := fun a b => match a, b with
    | [(AV.list 1 a0 none), (AV.v (.int .i64 a1))], [] => some (a0, a1)
    | _, _ => none
  args := fun x => [(AV.list 1 x.1 none), (AV.v (.int .i64 x.2))]
  bs := fun x => []
  ret := fun y => ⟨(AV.tup [(AV.list 1 y.1 none), (AV.v (.int .i64 y.2))]), [], none, [], [], []⟩
  t := fun x α k => (if 0 ≤ (x.1.length : Int) ∧ (x.1.length : Int) ≤ (x.1.length : Int) ∧ (x.1.length : Int).toNat * 8 ≤ maxBytes then (match F49_d6 N (x.1, x.2, ((x.1.length : Int).toNat), 0, (i64 ((x.1.length : Int) - 1)), ((List.replicate (x.1.length : Int).toNat (AV.v (.int .i64 0))).map dat0)) with | some y9 => (if y9.1 * 1 ≤ y9.2.2.length then (match F60_d N (chunks (y9.2.2.take (y9.1 * 1)) 1 y9.1) with | some y10 => (k (y10, y9.2.1)) | none => none) else none) | none => none) else none)
noncomputable abbrev F49_d (N : Nat) (x : (List (List AV)) × Int) : Option ((List (List AV)) × Int) := (F49_s N).d x
theorem F49_par6 (N : Nat) : Par (F49_l6 N).b := by
  intro x α β kn ke kn' ke' r r' h h1 h2
  revert h
  dsimp only [F49_l6]
  (repeat' (first | (with_reducible refine par_ite ?_ ?_) | (with_reducible refine par_both ?_ ?_) | split)) <;> intro h <;> first | exact h1 _ h | exact h2 _ h | (cases h; done)
theorem F49_body6 (N : Nat) (x : (F49_l6 N).X) (α : Type) (kn : AS → Option α) (ke : Out → Option α) : around (tabOf Tryz.prog) (F49_g N) F49_an (lam N [(6, F49_l6 N)]) 6 (bodyOf (nthLoop 6 (Tryz.f49.body.getD .skip))) ((F49_l6 N).st x) kn ke = (F49_l6 N).b x α (fun x' => kn ((F49_l6 N).st x')) (fun y => (F49_l6 N).sp y α ke) := by kernel_rfl
theorem F49_pat6 (N : Nat) (s : AS) (x : (F49_l6 N).X) (hc : s = canon (F49_an 6).1 s) (h : (F49_l6 N).p s = some x) : s = (F49_l6 N).st x := by
  dsimp only [F49_l6] at h
  split at h
  · cases h
    exact canon_mk hc ‹_› ‹_› rfl rfl rfl ⟨‹_›, ‹_›, ‹_›, ‹_›, ‹_›, trivial⟩ ⟨‹_›, trivial⟩
  · cases h
theorem F49_loop6 (N : Nat) : ∀ s o, s = canon (F49_an 6).1 s → (lam N [(6, F49_l6 N)]).v 6 s = some o → LoopSem Tryz.prog (nthLoop 6 (Tryz.f49.body.getD .skip)) s o :=
  loop_ok (tabOf_ok Tryz.prog) (gam_ok _) mixed F49_an N [(6, F49_l6 N)] 6 (bodyOf (nthLoop 6 (Tryz.f49.body.getD .skip))) (nthLoop 6 (Tryz.f49.body.getD .skip)) (by kernel_rfl) (by
    have e : actOf F49_an (bodyOf (nthLoop 6 (Tryz.f49.body.getD .skip))) (6 + 1) = [] := by kernel_rfl
    rw [e]
    intro p hp
    cases hp) (F49_l6 N) rfl (fun s x hc h => F49_pat6 N s x hc h) (fun x => rfl) (fun x α kn ke => (F49_body6 N x α kn ke).trans (congrArg ((F49_l6 N).b x α _) (funext fun y => (F49_l6 N).spe y α ke))) (F49_par6 N)
theorem F49_parF (N : Nat) : ParF (F49_s N).t := by
  intro x α β k k' r r' h h1
  revert h
  dsimp only [F49_s]
  (repeat' (first | (with_reducible refine par_ite ?_ ?_) | (with_reducible refine par_both ?_ ?_) | split)) <;> intro h <;> first | exact h1 _ h | (cases h; done)
theorem F49_text (N : Nat) (x : (F49_s N).X) : acall (tabOf Tryz.prog) (F49_g N) F49_an (lam N [(6, F49_l6 N)]) Tryz.f49 (F49_s N).S ((F49_s N).args x) ((F49_s N).bs x) = (F49_s N).t x Ret (fun y => some ((F49_s N).ret y)) := by kernel_rfl
theorem F49_pat (N : Nat) (a : List AV) (b : List (List AV)) (x : (F49_s N).X) (h : (F49_s N).pat a b = some x) : a = (F49_s N).args x ∧ b = (F49_s N).bs x := by
  dsimp only [F49_s] at h
  split at h
  · cases h; exact ⟨rfl, rfl⟩
  · cases h
noncomputable def F49_e (N : Nat) : Ent Tryz.prog := entOf (tabOf_ok Tryz.prog) (gam_ok _) mixed 49 Tryz.f49 Tryz.func49 rfl F49_an (lam N [(6, F49_l6 N)]) (by
    have e : actOf F49_an (Tryz.f49.body.getD .skip) 0 = [(6, nthLoop 6 (Tryz.f49.body.getD .skip))] := by kernel_rfl
    rw [e]
    intro p hp
    rcases List.mem_cons.1 hp with rfl | hp
    · exact F49_loop6 N
    cases hp) (F49_s N) (fun _ => ⟨rfl, rfl⟩) (F49_text N) (F49_pat N) (F49_parF N)
/-! ### slices.Reverse[[]string,string] (function 54) -/
def F54_an : Nat → Keep × Keep := anL [(2, ⟨[0, 2, 3], [], [0], [], [], [], [], [0], false⟩, ⟨[], [], [0], [], [], [], [], [0], false⟩)]
noncomputable def F54_g (N : Nat) : GamK := gam (P := Tryz.prog) []
noncomputable def F54_l2 (N : Nat) : LSpec where
  X := Nat × Int × Int × (List AV)
  Y := ((List AV))
  p := fun s => match s.env.length, s.nin, s.at 0, s.at 2, s.at 3, s.bx 0 with
    | 28, 1, (AV.vs 0 0 a0 1), (AV.v (.int .i64 a1)), (AV.v (.int .i64 a2)), some a3 => some (a0, a1, a2, a3)
    | _, _, _, _, _, _ => none
  st := fun x => mkS 28 [(0, (AV.vs 0 0 x.1 1)), (2, (AV.v (.int .i64 x.2.1))), (3, (AV.v (.int .i64 x.2.2.1)))] [(0, x.2.2.2)] (F54_an 2).1.toks 1
  out := fun y => (.exit 0, mkS 28 [] [(0, y)] (F54_an 2).2.toks 1)
  sp := fun y α k => k (.exit 0, mkS 28 [] [(0, y)] (F54_an 2).2.toks 1)
  spe := fun y α k => rfl
  b := fun x α kn ke => (match (decide (x.2.1 < x.2.2.1)) with | true => (if 0 ≤ x.2.2.1 ∧ x.2.2.1 < (x.1 : Int) then (match x.2.2.2[((0 + x.2.2.1.toNat) * 1)]? with | some x5 => (match x5 with | .v (.string s6) => (if 0 ≤ x.2.1 ∧ x.2.1 < (x.1 : Int) then (match x.2.2.2[((0 + x.2.1.toNat) * 1)]? with | some x7 => (match x7 with | .v (.string s8) => (if 0 ≤ x.2.1 ∧ x.2.1 < (x.1 : Int) then (if ((0 + x.2.1.toNat) * 1) + 1 ≤ x.2.2.2.length then (if 0 ≤ x.2.2.1 ∧ x.2.2.1 < (x.1 : Int) then (if ((0 + x.2.2.1.toNat) * 1) + 1 ≤ (x.2.2.2.set (((0 + x.2.1.toNat) * 1)) (AV.v (.string s6))).length then (kn (x.1, (i64 (x.2.1 + 1)), (i64 (x.2.2.1 - 1)), (((x.2.2.2.set (((0 + x.2.1.toNat) * 1)) (AV.v (.string s6))).set (((0 + x.2.2.1.toNat) * 1)) (AV.v (.string s8))).map dat0))) else none) else none) else none) else none) | _ => none) | none => none) else none) | _ => none) | none => none) else none) | false => (ke (x.2.2.2.map dat0)))
noncomputable abbrev F54_d2 (N : Nat) (x : Nat × Int × Int × (List AV)) : Option (((List AV))) := (F54_l2 N).L N x
noncomputable def F54_s (N : Nat) : FSpec where
  X := Nat × (List AV)
  Y := (List AV)
  ash := [[none]]
  bsh := [[]]
  S := ⟨[], [[]], [], [], [0]⟩
  bm := false
  pat := fun a b => match a, b with
    | [(AV.vs 0 0 a0 1)], [a1] => some (a0, a1)
    | _, _ => none
  args := fun x => [(AV.vs 0 0 x.1 1)]
  bs := fun x => [x.2]
  ret := fun y => ⟨(AV.tup []), [y], none, [], [], [0]⟩
  t := fun x α k => (match F54_d2 N (x.1, 0, (i64 (((x.1 : Nat) : Int) - 1)), (x.2.map dat0)) with | some y9 => (k (y9.map dat0)) | none => none)
noncomputable abbrev F54_d (N : Nat) (x : Nat × (List AV)) : Option ((List AV)) := (F54_s N).d x
theorem F54_par2 (N : Nat) : Par (F54_l2 N).b := by
  intro x α β kn ke kn' ke' r r' h h1 h2
  revert h
  dsimp only [F54_l2]
  (repeat' (first | (with_reducible refine par_ite ?_ ?_) | (with_reducible refine par_both ?_ ?_) | split)) <;> intro h <;> first | exact h1 _ h | exact h2 _ h | (cases h; done)
theorem F54_body2 (N : Nat) (x : (F54_l2 N).X) (α : Type) (kn : AS → Option α) (ke : Out → Option α) : around (tabOf Tryz.prog) (F54_g N) F54_an (lam N [(2, F54_l2 N)]) 2 (bodyOf (nthLoop 2 (Tryz.f54.body.getD .skip))) ((F54_l2 N).st x) kn ke = (F54_l2 N).b x α (fun x' => kn ((F54_l2 N).st x')) (fun y => (F54_l2 N).sp y α ke) := by kernel_rfl
theorem F54_pat2 (N : Nat) (s : AS) (x : (F54_l2 N).X) (hc : s = canon (F54_an 2).1 s) (h : (F54_l2 N).p s = some x) : s = (F54_l2 N).st x := by
  dsimp only [F54_l2] at h
  split at h
  · cases h
    exact canon_mk hc ‹_› ‹_› rfl rfl rfl ⟨‹_›, ‹_›, ‹_›, trivial⟩ ⟨‹_›, trivial⟩
  · cases h
theorem F54_loop2 (N : Nat) : ∀ s o, s = canon (F54_an 2).1 s → (lam N [(2, F54_l2 N)]).v 2 s = some o → LoopSem Tryz.prog (nthLoop 2 (Tryz.f54.body.getD .skip)) s o :=
  loop_ok (tabOf_ok Tryz.prog) (gam_ok _) mixed F54_an N [(2, F54_l2 N)] 2 (bodyOf (nthLoop 2 (Tryz.f54.body.getD .skip))) (nthLoop 2 (Tryz.f54.body.getD .skip)) (by kernel_rfl) (by
    have e : actOf F54_an (bodyOf (nthLoop 2 (Tryz.f54.body.getD .skip))) (2 + 1) = [] := by kernel_rfl
    rw [e]
    intro p hp
    cases hp) (F54_l2 N) rfl (fun s x hc h => F54_pat2 N s x hc h) (fun x => rfl) (fun x α kn ke => (F54_body2 N x α kn ke).trans (congrArg ((F54_l2 N).b x α _) (funext fun y => (F54_l2 N).spe y α ke))) (F54_par2 N)
theorem F54_parF (N : Nat) : ParF (F54_s N).t := by
  intro x α β k k' r r' h h1
  revert h
  dsimp only [F54_s]
  (repeat' (first | (with_reducible refine par_ite ?_ ?_) | (with_reducible refine par_both ?_ ?_) | split)) <;> intro h <;> first | exact h1 _ h | (cases h; done)
theorem F54_text (N : Nat) (x : (F54_s N).X) : acall (tabOf Tryz.prog) (F54_g N) F54_an (lam N [(2, F54_l2 N)]) Tryz.f54 (F54_s N).S ((F54_s N).args x) ((F54_s N).bs x) = (F54_s N).t x Ret (fun y => some ((F54_s N).ret y)) := by kernel_rfl
theorem F54_pat (N : Nat) (a : List AV) (b : List (List AV)) (x : (F54_s N).X) (h : (F54_s N).pat a b = some x) : a = (F54_s N).args x ∧ b = (F54_s N).bs x := by
  dsimp only [F54_s] at h
  split at h
  · cases h; exact ⟨rfl, rfl⟩
  · cases h
noncomputable def F54_e (N : Nat) : Ent Tryz.prog := entOf (tabOf_ok Tryz.prog) (gam_ok _) mixed 54 Tryz.f54 Tryz.func54 rfl F54_an (lam N [(2, F54_l2 N)]) (by
    have e : actOf F54_an (Tryz.f54.body.getD .skip) 0 = [(2, nthLoop 2 (Tryz.f54.body.getD .skip))] := by kernel_rfl
    rw [e]
    intro p hp
    rcases List.mem_cons.1 hp with rfl | hp
    · exact F54_loop2 N
    cases hp) (F54_s N) (fun _ => ⟨rfl, rfl⟩) (F54_text N) (F54_pat N) (F54_parF N)
/-! ### seismonet/nat.Text (function 23) -/
def F23_an : Nat → Keep × Keep := anF [(9, ⟨[6], [], [], [(5, 1)], [], [(4, 1)], [], [], false⟩, ⟨[], [], [], [], [], [(4, 1)], [], [], false⟩)] [(100011, ([4], []))]
noncomputable def F23_g (N : Nat) : GamK := gam (P := Tryz.prog) [F25_e N, F49_e N, F52_e N, F53_e N, F54_e N, F55_e N]
noncomputable def F23_l9 (N : Nat) : LSpec where
  X := Nat × (List (List AV)) × Int × (List AV)
  Y := (Nat × (List AV))
  p := fun s => match s.env.length, s.nin, s.at 4, s.at 5, s.at 6, s.bx 1000004 with
    | 43, 0, (AV.vs 1000004 0 a0 1), (AV.list 1 a1 none), (AV.v (.int .i64 a2)), some a3 => some (a0, a1, a2, a3)
    | _, _, _, _, _, _ => none
  st := fun x => mkS 43 [(4, (AV.vs 1000004 0 x.1 1)), (5, (AV.list 1 x.2.1 none)), (6, (AV.v (.int .i64 x.2.2.1)))] [(1000004, x.2.2.2)] (F23_an 9).1.toks 0
  out := fun y => (.exit 0, mkS 43 [(4, (AV.vs 1000004 0 y.1 1))] [(1000004, y.2)] (F23_an 9).2.toks 0)
  sp := fun y α k => k (.exit 0, mkS 43 [(4, (AV.vs 1000004 0 y.1 1))] [(1000004, y.2)] (F23_an 9).2.toks 0)
  spe := fun y α k => rfl
  b := fun x α kn ke => (match F52_d N x.2.2.1 with | some y3 => (match ((x.2.1.length : Int) == 0) with | true => (if x.1 * 1 ≤ x.2.2.2.length ∧ (x.1 + [[(AV.v (.string y3))]].length) * 16 ≤ maxBytes then (ke ((x.1 + [[(AV.v (.string y3))]].length), ((x.2.2.2.take (x.1 * 1) ++ [[(AV.v (.string y3))]].flatten).map dat0))) else none) | false => (match F53_d N ((⟨#[48]⟩ : ByteArray), (i64 (9 - (y3.size : Int)))) with | some y4 => (if y4.size + y3.size ≤ 9223372036854775807 then (if x.1 * 1 ≤ x.2.2.2.length ∧ (x.1 + [[(AV.v (.string (y4 ++ y3)))]].length) * 16 ≤ maxBytes then (match F49_d N (x.2.1, 1000000000) with | some y5 => (kn ((x.1 + [[(AV.v (.string (y4 ++ y3)))]].length), y5.1, y5.2, ((x.2.2.2.take (x.1 * 1) ++ [[(AV.v (.string (y4 ++ y3)))]].flatten).map dat0))) | none => none) else none) else none) | none => none)) | none => none)
noncomputable abbrev F23_d9 (N : Nat) (x : Nat × (List (List AV)) × Int × (List AV)) : Option ((Nat × (List AV))) := (F23_l9 N).L N x
noncomputable def F23_s (N : Nat) : FSpec where
  X := (List (List AV))
  Y := ByteArray × Int
  ash := [[some 1]]
  bsh := []
  S := ⟨[[none], [none]], [], [], [], []⟩
  bm := false
  pat := fun a b => match a, b with
    | [(AV.list 1 a0 none)], [] => some a0
    | _, _ => none
  args := fun x => [(AV.list 1 x none)]
  bs := fun x => []
  ret := fun y => ⟨(AV.tup [(AV.v (.string y.1)), (AV.v (.int .i64 y.2))]), [], none, [], [], []⟩
  t := fun x α k => (match F25_d N x with | some y1 => (match (!y1) with | true => (k ((⟨#[]⟩ : ByteArray), 1)) | false => (match F49_d N (x, 1000000000) with | some y2 => (match F23_d9 N (0, y2.1, y2.2, ([] : List AV)) with | some y6 => (match F54_d N (y6.1, (y6.2.map dat0)) with | some y7 => (if y6.1 * 1 ≤ y7.length then (match F55_d N ((chunks (y7.take (y6.1 * 1)) 1 y6.1), (⟨#[]⟩ : ByteArray)) with | some y8 => (k (y8, 0)) | none => none) else none) | none => none) | none => none) | none => none)) | none => none)
noncomputable abbrev F23_d (N : Nat) (x : (List (List AV))) : Option (ByteArray × Int) := (F23_s N).d x
theorem F23_par9 (N : Nat) : Par (F23_l9 N).b := by
  intro x α β kn ke kn' ke' r r' h h1 h2
  revert h
  dsimp only [F23_l9]
  (repeat' (first | (with_reducible refine par_ite ?_ ?_) | (with_reducible refine par_both ?_ ?_) | split)) <;> intro h <;> first | exact h1 _ h | exact h2 _ h | (cases h; done)
theorem F23_body9 (N : Nat) (x : (F23_l9 N).X) (α : Type) (kn : AS → Option α) (ke : Out → Option α) : around (tabB Tryz.prog [29, 38]) (F23_g N) F23_an (lam N [(9, F23_l9 N)]) 9 (bodyOf (nthLoop 9 (Tryz.f23.body.getD .skip))) ((F23_l9 N).st x) kn ke = (F23_l9 N).b x α (fun x' => kn ((F23_l9 N).st x')) (fun y => (F23_l9 N).sp y α ke) := by kernel_rfl
theorem F23_pat9 (N : Nat) (s : AS) (x : (F23_l9 N).X) (hc : s = canon (F23_an 9).1 s) (h : (F23_l9 N).p s = some x) : s = (F23_l9 N).st x := by
  dsimp only [F23_l9] at h
  split at h
  · cases h
    exact canon_mk hc ‹_› ‹_› rfl rfl rfl ⟨‹_›, ‹_›, ‹_›, trivial⟩ ⟨‹_›, trivial⟩
  · cases h
theorem F23_loop9 (N : Nat) : ∀ s o, s = canon (F23_an 9).1 s → (lam N [(9, F23_l9 N)]).v 9 s = some o → LoopSem Tryz.prog (nthLoop 9 (Tryz.f23.body.getD .skip)) s o :=
  loop_ok (tabB_ok Tryz.prog [29, 38]) (gam_ok _) mixed F23_an N [(9, F23_l9 N)] 9 (bodyOf (nthLoop 9 (Tryz.f23.body.getD .skip))) (nthLoop 9 (Tryz.f23.body.getD .skip)) (by kernel_rfl) (by
    have e : actOf F23_an (bodyOf (nthLoop 9 (Tryz.f23.body.getD .skip))) (9 + 1) = [] := by kernel_rfl
    rw [e]
    intro p hp
    cases hp) (F23_l9 N) rfl (fun s x hc h => F23_pat9 N s x hc h) (fun x => rfl) (fun x α kn ke => (F23_body9 N x α kn ke).trans (congrArg ((F23_l9 N).b x α _) (funext fun y => (F23_l9 N).spe y α ke))) (F23_par9 N)
theorem F23_parF (N : Nat) : ParF (F23_s N).t := by
  intro x α β k k' r r' h h1
  revert h
  dsimp only [F23_s]
  (repeat' (first | (with_reducible refine par_ite ?_ ?_) | (with_reducible refine par_both ?_ ?_) | split)) <;> intro h <;> first | exact h1 _ h | (cases h; done)
theorem F23_text (N : Nat) (x : (F23_s N).X) : acall (tabB Tryz.prog [29, 38]) (F23_g N) F23_an (lam N [(9, F23_l9 N)]) Tryz.f23 (F23_s N).S ((F23_s N).args x) ((F23_s N).bs x) = (F23_s N).t x Ret (fun y => some ((F23_s N).ret y)) := by kernel_rfl
theorem F23_pat (N : Nat) (a : List AV) (b : List (List AV)) (x : (F23_s N).X) (h : (F23_s N).pat a b = some x) : a = (F23_s N).args x ∧ b = (F23_s N).bs x := by
  dsimp only [F23_s] at h
  split at h
  · cases h; exact ⟨rfl, rfl⟩
  · cases h
noncomputable def F23_e (N : Nat) : Ent Tryz.prog := entOf (tabB_ok Tryz.prog [29, 38]) (gam_ok _) mixed 23 Tryz.f23 Tryz.func23 rfl F23_an (lam N [(9, F23_l9 N)]) (by
    have e : actOf F23_an (Tryz.f23.body.getD .skip) 0 = [(9, nthLoop 9 (Tryz.f23.body.getD .skip))] := by kernel_rfl
    rw [e]
    intro p hp
    rcases List.mem_cons.1 hp with rfl | hp
    · exact F23_loop9 N
    cases hp) (F23_s N) (fun _ => ⟨rfl, rfl⟩) (F23_text N) (F23_pat N) (F23_parF N)
/-! ### seismonet/nat.From (function 38) -/
def F38_an : Nat → Keep × Keep := anL [(8, ⟨[0], [(4, 1)], [], [], [], [], [], [], false⟩, ⟨[], [(4, 1)], [], [], [], [], [], [], false⟩)]
noncomputable def F38_g (N : Nat) : GamK := gam (P := Tryz.prog) []
noncomputable def F38_l8 (N : Nat) : LSpec where
  X := (List (List AV)) × Int
  Y := ((List (List AV)))
  p := fun s => match s.env.length, s.nin, s.at 4, s.at 0 with
    | 17, 0, (AV.list 1 a0 (some 1280000256)), (AV.v (.int .i64 a1)) => some (a0, a1)
    | _, _, _, _ => none
  st := fun x => mkS 17 [(4, (AV.list 1 x.1 (some 1280000256))), (0, (AV.v (.int .i64 x.2)))] [] (F38_an 8).1.toks 0
  out := fun y => (.exit 0, mkS 17 [(4, (AV.list 1 y (some 1280000256)))] [] (F38_an 8).2.toks 0)
  sp := fun y α k => k (.exit 0, mkS 17 [(4, (AV.list 1 y (some 1280000256)))] [] (F38_an 8).2.toks 0)
  spe := fun y α k => rfl
  b := fun x α kn ke => (match (decide (x.2 > 0)) with | true => (if (x.1.length + [[(AV.v (.int .i64 (x.2.tmod 1073741824)))]].length) * 8 ≤ maxBytes then (kn ((x.1 ++ [[(AV.v (.int .i64 (x.2.tmod 1073741824)))]]), (shR .i64 x.2 (30 : Int)))) else none) | false => (ke x.1))
noncomputable abbrev F38_d8 (N : Nat) (x : (List (List AV)) × Int) : Option (((List (List AV)))) := (F38_l8 N).L N x
noncomputable def F38_s (N : Nat) : FSpec where
  X := Int
  Y := (List (List AV)) × Int
  ash := [[none]]
  bsh := []
  S := ⟨[[some 2000001], [none]], [], [], [], []⟩
  bm := false
  pat := fun a b => match a, b with
    | [(AV.v (.int .i64 a0))], [] => some a0
    | _, _ => none
  args := fun x => [(AV.v (.int .i64 x))]
  bs := fun x => []
  ret := fun y => ⟨(AV.tup [(AV.list 1 y.1 (some 2560000000)), (AV.v (.int .i64 y.2))]), [], none, [], [2560000000], []⟩
  t := fun x α k => (match (decide (x < 0)) with | true => (k (([] : List (List AV)), 2)) | false => (match F38_d8 N (([] : List (List AV)), x) with | some y1 => (k (y1, 0)) | none => none))
noncomputable abbrev F38_d (N : Nat) (x : Int) : Option ((List (List AV)) × Int) := (F38_s N).d x
theorem F38_par8 (N : Nat) : Par (F38_l8 N).b := by
  intro x α β kn ke kn' ke' r r' h h1 h2
  revert h
  dsimp only [F38_l8]
  (repeat' (first | (with_reducible refine par_ite ?_ ?_) | (with_reducible refine par_both ?_ ?_) | split)) <;> intro h <;> first | exact h1 _ h | exact h2 _ h | (cases h; done)
theorem F38_body8 (N : Nat) (x : (F38_l8 N).X) (α : Type) (kn : AS → Option α) (ke : Out → Option α) : around (tabOf Tryz.prog) (F38_g N) F38_an (lam N [(8, F38_l8 N)]) 8 (bodyOf (nthLoop 8 (Tryz.f38.body.getD .skip))) ((F38_l8 N).st x) kn ke = (F38_l8 N).b x α (fun x' => kn ((F38_l8 N).st x')) (fun y => (F38_l8 N).sp y α ke) := by kernel_rfl
theorem F38_pat8 (N : Nat) (s : AS) (x : (F38_l8 N).X) (hc : s = canon (F38_an 8).1 s) (h : (F38_l8 N).p s = some x) : s = (F38_l8 N).st x := by
  dsimp only [F38_l8] at h
  split at h
  · cases h
    exact canon_mk hc ‹_› ‹_› rfl rfl rfl ⟨‹_›, ‹_›, trivial⟩ trivial
  · cases h
theorem F38_loop8 (N : Nat) : ∀ s o, s = canon (F38_an 8).1 s → (lam N [(8, F38_l8 N)]).v 8 s = some o → LoopSem Tryz.prog (nthLoop 8 (Tryz.f38.body.getD .skip)) s o :=
  loop_ok (tabOf_ok Tryz.prog) (gam_ok _) mixed F38_an N [(8, F38_l8 N)] 8 (bodyOf (nthLoop 8 (Tryz.f38.body.getD .skip))) (nthLoop 8 (Tryz.f38.body.getD .skip)) (by kernel_rfl) (by
    have e : actOf F38_an (bodyOf (nthLoop 8 (Tryz.f38.body.getD .skip))) (8 + 1) = [] := by kernel_rfl
    rw [e]
    intro p hp
    cases hp) (F38_l8 N) rfl (fun s x hc h => F38_pat8 N s x hc h) (fun x => rfl) (fun x α kn ke => (F38_body8 N x α kn ke).trans (congrArg ((F38_l8 N).b x α _) (funext fun y => (F38_l8 N).spe y α ke))) (F38_par8 N)
theorem F38_parF (N : Nat) : ParF (F38_s N).t := by
  intro x α β k k' r r' h h1
  revert h
  dsimp only [F38_s]
  (repeat' (first | (with_reducible refine par_ite ?_ ?_) | (with_reducible refine par_both ?_ ?_) | split)) <;> intro h <;> first | exact h1 _ h | (cases h; done)
theorem F38_text (N : Nat) (x : (F38_s N).X) : acall (tabOf Tryz.prog) (F38_g N) F38_an (lam N [(8, F38_l8 N)]) Tryz.f38 (F38_s N).S ((F38_s N).args x) ((F38_s N).bs x) = (F38_s N).t x Ret (fun y => some ((F38_s N).ret y)) := by kernel_rfl
theorem F38_pat (N : Nat) (a : List AV) (b : List (List AV)) (x : (F38_s N).X) (h : (F38_s N).pat a b = some x) : a = (F38_s N).args x ∧ b = (F38_s N).bs x := by
  dsimp only [F38_s] at h
  split at h
  · cases h; exact ⟨rfl, rfl⟩
  · cases h
noncomputable def F38_e (N : Nat) : Ent Tryz.prog := entOf (tabOf_ok Tryz.prog) (gam_ok _) mixed 38 Tryz.f38 Tryz.func38 rfl F38_an (lam N [(8, F38_l8 N)]) (by
    have e : actOf F38_an (Tryz.f38.body.getD .skip) 0 = [(8, nthLoop 8 (Tryz.f38.body.getD .skip))] := by kernel_rfl
    rw [e]
    intro p hp
    rcases List.mem_cons.1 hp with rfl | hp
    · exact F38_loop8 N
    cases hp) (F38_s N) (fun _ => ⟨rfl, rfl⟩) (F38_text N) (F38_pat N) (F38_parF N)
/-! ### seismonet/seismonetref17.Same (function 15) -/
def F15_an : Nat → Keep × Keep := anL [(8, ⟨[5], [], [], [(0, 1), (1, 1)], [], [], [], [], false⟩, ⟨[4], [], [], [], [], [], [], [], false⟩)]
noncomputable def F15_g (N : Nat) : GamK := gam (P := Tryz.prog) []
noncomputable def F15_l8 (N : Nat) : LSpec where
  X := (List (List AV)) × (List (List AV)) × Int
  Y := (Bool) ⊕ (Unit)
  p := fun s => match s.env.length, s.nin, s.at 0, s.at 1, s.at 5 with
    | 26, 0, (AV.list 1 a0 none), (AV.list 1 a1 none), (AV.v (.int .i64 a2)) => some (a0, a1, a2)
    | _, _, _, _, _ => none
  st := fun x => mkS 26 [(0, (AV.list 1 x.1 none)), (1, (AV.list 1 x.2.1 none)), (5, (AV.v (.int .i64 x.2.2)))] [] (F15_an 8).1.toks 0
  out := fun y => match y with
    | .inl y => (.ret, mkS 26 [(4, (AV.v (.bool y)))] [] (F15_an 8).2.toks 0)
    | .inr y => (.exit 0, mkS 26 [] [] (F15_an 8).2.toks 0)
  sp := fun y α k => match y with
    | .inl y => k (.ret, mkS 26 [(4, (AV.v (.bool y)))] [] (F15_an 8).2.toks 0)
    | .inr y => k (.exit 0, mkS 26 [] [] (F15_an 8).2.toks 0)
  spe := fun y α k => by rcases y with _ | _ <;> rfl
  b := fun x α kn ke => (match (decide (x.2.2 < (x.1.length : Int))) with | true => (if 0 ≤ x.2.2 then (match x.1[x.2.2.toNat]? with | some c1 => (match c1[0]? with | some x2 => (match x2 with | .v (.int q4 n3) => (if q4 = .i64 then (if 0 ≤ x.2.2 then (match x.2.1[x.2.2.toNat]? with | some c5 => (match c5[0]? with | some x6 => (match x6 with | .v (.int q8 n7) => (if q8 = .i64 then (match (n3 != n7) with | true => (ke (.inl false)) | false => (kn (x.1, x.2.1, (i64 (x.2.2 + 1))))) else none) | _ => none) | none => none) | none => none) else none) else none) | _ => none) | none => none) | none => none) else none) | false => (ke (.inr ())))
noncomputable abbrev F15_d8 (N : Nat) (x : (List (List AV)) × (List (List AV)) × Int) : Option ((Bool) ⊕ (Unit)) := (F15_l8 N).L N x
noncomputable def F15_s (N : Nat) : FSpec where
  X := (List (List AV)) × (List (List AV))
  Y := Bool
  ash := [[some 1], [some 1]]
  bsh := []
  S := ⟨[[none]], [], [], [], []⟩
  bm := false
  pat := fun a b => match a, b with
    | [(AV.list 1 a0 none), (AV.list 1 a1 none)], [] => some (a0, a1)
    | _, _ => none
  args := fun x => [(AV.list 1 x.1 none), (AV.list 1 x.2 none)]
  bs := fun x => []
  ret := fun y => ⟨(AV.v (.bool y)), [], none, [], [], []⟩
  t := fun x α k => (match ((x.1.length : Int) != (x.2.length : Int)) with | true => (k false) | false => (match F15_d8 N (x.1, x.2, 0) with | some y9 => (match y9 with | .inl z10 => (k z10) | .inr z11 => (k true)) | none => none))
noncomputable abbrev F15_d (N : Nat) (x : (List (List AV)) × (List (List AV))) : Option (Bool) := (F15_s N).d x
theorem F15_par8 (N : Nat) : Par (F15_l8 N).b := by
  intro x α β kn ke kn' ke' r r' h h1 h2
  revert h
  dsimp only [F15_l8]
  (repeat' (first | (with_reducible refine par_ite ?_ ?_) | (with_reducible refine par_both ?_ ?_) | split)) <;> intro h <;> first | exact h1 _ h | exact h2 _ h | (cases h; done)
theorem F15_body8 (N : Nat) (x : (F15_l8 N).X) (α : Type) (kn : AS → Option α) (ke : Out → Option α) : around (tabOf Tryz.prog) (F15_g N) F15_an (lam N [(8, F15_l8 N)]) 8 (bodyOf (nthLoop 8 (Tryz.f15.body.getD .skip))) ((F15_l8 N).st x) kn ke = (F15_l8 N).b x α (fun x' => kn ((F15_l8 N).st x')) (fun y => (F15_l8 N).sp y α ke) := by kernel_rfl
theorem F15_pat8 (N : Nat) (s : AS) (x : (F15_l8 N).X) (hc : s = canon (F15_an 8).1 s) (h : (F15_l8 N).p s = some x) : s = (F15_l8 N).st x := by
  dsimp only [F15_l8] at h
  split at h
  · cases h
    exact canon_mk hc ‹_› ‹_› rfl rfl rfl ⟨‹_›, ‹_›, ‹_›, trivial⟩ trivial
  · cases h
theorem F15_loop8 (N : Nat) : ∀ s o, s = canon (F15_an 8).1 s → (lam N [(8, F15_l8 N)]).v 8 s = some o → LoopSem Tryz.prog (nthLoop 8 (Tryz.f15.body.getD .skip)) s o :=
  loop_ok (tabOf_ok Tryz.prog) (gam_ok _) mixed F15_an N [(8, F15_l8 N)] 8 (bodyOf (nthLoop 8 (Tryz.f15.body.getD .skip))) (nthLoop 8 (Tryz.f15.body.getD .skip)) (by kernel_rfl) (by
    have e : actOf F15_an (bodyOf (nthLoop 8 (Tryz.f15.body.getD .skip))) (8 + 1) = [] := by kernel_rfl
    rw [e]
    intro p hp
    cases hp) (F15_l8 N) rfl (fun s x hc h => F15_pat8 N s x hc h) (fun x => rfl) (fun x α kn ke => (F15_body8 N x α kn ke).trans (congrArg ((F15_l8 N).b x α _) (funext fun y => (F15_l8 N).spe y α ke))) (F15_par8 N)
theorem F15_parF (N : Nat) : ParF (F15_s N).t := by
  intro x α β k k' r r' h h1
  revert h
  dsimp only [F15_s]
  (repeat' (first | (with_reducible refine par_ite ?_ ?_) | (with_reducible refine par_both ?_ ?_) | split)) <;> intro h <;> first | exact h1 _ h | (cases h; done)
theorem F15_text (N : Nat) (x : (F15_s N).X) : acall (tabOf Tryz.prog) (F15_g N) F15_an (lam N [(8, F15_l8 N)]) Tryz.f15 (F15_s N).S ((F15_s N).args x) ((F15_s N).bs x) = (F15_s N).t x Ret (fun y => some ((F15_s N).ret y)) := by kernel_rfl
theorem F15_pat (N : Nat) (a : List AV) (b : List (List AV)) (x : (F15_s N).X) (h : (F15_s N).pat a b = some x) : a = (F15_s N).args x ∧ b = (F15_s N).bs x := by
  dsimp only [F15_s] at h
  split at h
  · cases h; exact ⟨rfl, rfl⟩
  · cases h
noncomputable def F15_e (N : Nat) : Ent Tryz.prog := entOf (tabOf_ok Tryz.prog) (gam_ok _) mixed 15 Tryz.f15 Tryz.func15 rfl F15_an (lam N [(8, F15_l8 N)]) (by
    have e : actOf F15_an (Tryz.f15.body.getD .skip) 0 = [(8, nthLoop 8 (Tryz.f15.body.getD .skip))] := by kernel_rfl
    rw [e]
    intro p hp
    rcases List.mem_cons.1 hp with rfl | hp
    · exact F15_loop8 N
    cases hp) (F15_s N) (fun _ => ⟨rfl, rfl⟩) (F15_text N) (F15_pat N) (F15_parF N)
/-! ### seismonet/seismonetlaw17.sane (function 5) -/
def F5_an : Nat → Keep × Keep := anL []
noncomputable def F5_g (N : Nat) : GamK := gam (P := Tryz.prog) [F27_e N, F23_e N, F38_e N, F15_e N]
noncomputable def F5_s (N : Nat) : FSpec where
  X := Unit
  Y := Bool
  ash := []
  bsh := []
  S := ⟨[[none]], [], [], [], []⟩
  bm := false
  pat := fun a b => match a, b with
    | [], [] => some ()
    | _, _ => none
  args := fun x => []
  bs := fun x => []
  ret := fun y => ⟨(AV.v (.bool y)), [], none, [], [], []⟩
  t := fun x α k => (match F27_d N (⟨#[49, 49, 53, 50, 57, 50, 49, 53, 48, 52, 54, 48, 54, 56, 52, 54, 57, 55, 54]⟩ : ByteArray) with | some y1 => (match F23_d N ([[(AV.v (.int .i64 0))], [(AV.v (.int .i64 0))], [(AV.v (.int .i64 1))]]) with | some y2 => (match F38_d N 1073741824 with | some y3 => (match (y1.2 == 0) with | true => (match (y2.2 == 0) with | true => (match (y3.2 == 0) with | true => (match F15_d N (y1.1, [[(AV.v (.int .i64 0))], [(AV.v (.int .i64 0))], [(AV.v (.int .i64 1))]]) with | some y4 => (match y4 with | true => (match (y2.1.toList == (⟨#[49, 49, 53, 50, 57, 50, 49, 53, 48, 52, 54, 48, 54, 56, 52, 54, 57, 55, 54]⟩ : ByteArray).toList) with | true => (match F15_d N (y3.1, [[(AV.v (.int .i64 0))], [(AV.v (.int .i64 1))]]) with | some y5 => (k y5) | none => none) | false => (k false)) | false => (k false)) | none => none) | false => (k false)) | false => (k false)) | false => (k false)) | none => none) | none => none) | none => none)
noncomputable abbrev F5_d (N : Nat) (x : Unit) : Option (Bool) := (F5_s N).d x
theorem F5_parF (N : Nat) : ParF (F5_s N).t := by
  intro x α β k k' r r' h h1
  revert h
  dsimp only [F5_s]
  (repeat' (first | (with_reducible refine par_ite ?_ ?_) | (with_reducible refine par_both ?_ ?_) | split)) <;> intro h <;> first | exact h1 _ h | (cases h; done)
theorem F5_text (N : Nat) (x : (F5_s N).X) : acall (tabOf Tryz.prog) (F5_g N) F5_an (lam N []) Tryz.f5 (F5_s N).S ((F5_s N).args x) ((F5_s N).bs x) = (F5_s N).t x Ret (fun y => some ((F5_s N).ret y)) := by kernel_rfl
theorem F5_pat (N : Nat) (a : List AV) (b : List (List AV)) (x : (F5_s N).X) (h : (F5_s N).pat a b = some x) : a = (F5_s N).args x ∧ b = (F5_s N).bs x := by
  dsimp only [F5_s] at h
  split at h
  · cases h; exact ⟨rfl, rfl⟩
  · cases h
noncomputable def F5_e (N : Nat) : Ent Tryz.prog := entOf (tabOf_ok Tryz.prog) (gam_ok _) mixed 5 Tryz.f5 Tryz.func5 rfl F5_an (lam N []) (by
    have e : actOf F5_an (Tryz.f5.body.getD .skip) 0 = [] := by kernel_rfl
    rw [e]
    intro p hp
    cases hp) (F5_s N) (fun _ => ⟨rfl, rfl⟩) (F5_text N) (F5_pat N) (F5_parF N)
/-! ### seismonet/nat.both (function 40) -/
def F40_an : Nat → Keep × Keep := anL []
noncomputable def F40_g (N : Nat) : GamK := gam (P := Tryz.prog) [F25_e N]
noncomputable def F40_s (N : Nat) : FSpec where
  X := (List (List AV)) × (List (List AV))
  Y := Bool
  ash := [[some 1], [some 1]]
  bsh := []
  S := ⟨[[none]], [], [], [], []⟩
  bm := false
  pat := fun a b => match a, b with
    | [(AV.list 1 a0 none), (AV.list 1 a1 none)], [] => some (a0, a1)
    | _, _ => none
  args := fun x => [(AV.list 1 x.1 none), (AV.list 1 x.2 none)]
  bs := fun x => []
  ret := fun y => ⟨(AV.v (.bool y)), [], none, [], [], []⟩
  t := fun x α k => (match F25_d N x.1 with | some y1 => (match y1 with | true => (match F25_d N x.2 with | some y2 => (k y2) | none => none) | false => (k false)) | none => none)
noncomputable abbrev F40_d (N : Nat) (x : (List (List AV)) × (List (List AV))) : Option (Bool) := (F40_s N).d x
theorem F40_parF (N : Nat) : ParF (F40_s N).t := by
  intro x α β k k' r r' h h1
  revert h
  dsimp only [F40_s]
  (repeat' (first | (with_reducible refine par_ite ?_ ?_) | (with_reducible refine par_both ?_ ?_) | split)) <;> intro h <;> first | exact h1 _ h | (cases h; done)
theorem F40_text (N : Nat) (x : (F40_s N).X) : acall (tabOf Tryz.prog) (F40_g N) F40_an (lam N []) Tryz.f40 (F40_s N).S ((F40_s N).args x) ((F40_s N).bs x) = (F40_s N).t x Ret (fun y => some ((F40_s N).ret y)) := by kernel_rfl
theorem F40_pat (N : Nat) (a : List AV) (b : List (List AV)) (x : (F40_s N).X) (h : (F40_s N).pat a b = some x) : a = (F40_s N).args x ∧ b = (F40_s N).bs x := by
  dsimp only [F40_s] at h
  split at h
  · cases h; exact ⟨rfl, rfl⟩
  · cases h
noncomputable def F40_e (N : Nat) : Ent Tryz.prog := entOf (tabOf_ok Tryz.prog) (gam_ok _) mixed 40 Tryz.f40 Tryz.func40 rfl F40_an (lam N []) (by
    have e : actOf F40_an (Tryz.f40.body.getD .skip) 0 = [] := by kernel_rfl
    rw [e]
    intro p hp
    cases hp) (F40_s N) (fun _ => ⟨rfl, rfl⟩) (F40_text N) (F40_pat N) (F40_parF N)
/-! ### cmp.isNaN[int] (function 78) -/
def F78_an : Nat → Keep × Keep := anL []
noncomputable def F78_g (N : Nat) : GamK := gam (P := Tryz.prog) []
noncomputable def F78_s (N : Nat) : FSpec where
  X := Int
  Y := Bool
  ash := [[none]]
  bsh := []
  S := ⟨[[none]], [], [], [], []⟩
  bm := false
  pat := fun a b => match a, b with
    | [(AV.v (.int .i64 a0))], [] => some a0
    | _, _ => none
  args := fun x => [(AV.v (.int .i64 x))]
  bs := fun x => []
  ret := fun y => ⟨(AV.v (.bool y)), [], none, [], [], []⟩
  t := fun x α k => (k (x != x))
noncomputable abbrev F78_d (N : Nat) (x : Int) : Option (Bool) := (F78_s N).d x
theorem F78_parF (N : Nat) : ParF (F78_s N).t := by
  intro x α β k k' r r' h h1
  revert h
  dsimp only [F78_s]
  (repeat' (first | (with_reducible refine par_ite ?_ ?_) | (with_reducible refine par_both ?_ ?_) | split)) <;> intro h <;> first | exact h1 _ h | (cases h; done)
theorem F78_text (N : Nat) (x : (F78_s N).X) : acall (tabOf Tryz.prog) (F78_g N) F78_an (lam N []) Tryz.f78 (F78_s N).S ((F78_s N).args x) ((F78_s N).bs x) = (F78_s N).t x Ret (fun y => some ((F78_s N).ret y)) := by kernel_rfl
theorem F78_pat (N : Nat) (a : List AV) (b : List (List AV)) (x : (F78_s N).X) (h : (F78_s N).pat a b = some x) : a = (F78_s N).args x ∧ b = (F78_s N).bs x := by
  dsimp only [F78_s] at h
  split at h
  · cases h; exact ⟨rfl, rfl⟩
  · cases h
noncomputable def F78_e (N : Nat) : Ent Tryz.prog := entOf (tabOf_ok Tryz.prog) (gam_ok _) mixed 78 Tryz.f78 Tryz.func78 rfl F78_an (lam N []) (by
    have e : actOf F78_an (Tryz.f78.body.getD .skip) 0 = [] := by kernel_rfl
    rw [e]
    intro p hp
    cases hp) (F78_s N) (fun _ => ⟨rfl, rfl⟩) (F78_text N) (F78_pat N) (F78_parF N)
/-! ### cmp.Compare[int] (function 61) -/
def F61_an : Nat → Keep × Keep := anL []
noncomputable def F61_g (N : Nat) : GamK := gam (P := Tryz.prog) [F78_e N]
noncomputable def F61_s (N : Nat) : FSpec where
  X := Int × Int
  Y := Int
  ash := [[none], [none]]
  bsh := []
  S := ⟨[[none]], [], [], [], []⟩
  bm := false
  pat := fun a b => match a, b with
    | [(AV.v (.int .i64 a0)), (AV.v (.int .i64 a1))], [] => some (a0, a1)
    | _, _ => none
  args := fun x => [(AV.v (.int .i64 x.1)), (AV.v (.int .i64 x.2))]
  bs := fun x => []
  ret := fun y => ⟨(AV.v (.int .i64 y)), [], none, [], [], []⟩
  t := fun x α k => (match F78_d N x.1 with | some y1 => (match F78_d N x.2 with | some y2 => (match y1 with | true => (match y2 with | true => (k 0) | false => (k (-1))) | false => (match y2 with | true => (k 1) | false => (match (decide (x.1 < x.2)) with | true => (k (-1)) | false => (match (decide (x.1 > x.2)) with | true => (k 1) | false => (k 0))))) | none => none) | none => none)
noncomputable abbrev F61_d (N : Nat) (x : Int × Int) : Option (Int) := (F61_s N).d x
theorem F61_parF (N : Nat) : ParF (F61_s N).t := by
  intro x α β k k' r r' h h1
  revert h
  dsimp only [F61_s]
  (repeat' (first | (with_reducible refine par_ite ?_ ?_) | (with_reducible refine par_both ?_ ?_) | split)) <;> intro h <;> first | exact h1 _ h | (cases h; done)
theorem F61_text (N : Nat) (x : (F61_s N).X) : acall (tabOf Tryz.prog) (F61_g N) F61_an (lam N []) Tryz.f61 (F61_s N).S ((F61_s N).args x) ((F61_s N).bs x) = (F61_s N).t x Ret (fun y => some ((F61_s N).ret y)) := by kernel_rfl
theorem F61_pat (N : Nat) (a : List AV) (b : List (List AV)) (x : (F61_s N).X) (h : (F61_s N).pat a b = some x) : a = (F61_s N).args x ∧ b = (F61_s N).bs x := by
  dsimp only [F61_s] at h
  split at h
  · cases h; exact ⟨rfl, rfl⟩
  · cases h
noncomputable def F61_e (N : Nat) : Ent Tryz.prog := entOf (tabOf_ok Tryz.prog) (gam_ok _) mixed 61 Tryz.f61 Tryz.func61 rfl F61_an (lam N []) (by
    have e : actOf F61_an (Tryz.f61.body.getD .skip) 0 = [] := by kernel_rfl
    rw [e]
    intro p hp
    cases hp) (F61_s N) (fun _ => ⟨rfl, rfl⟩) (F61_text N) (F61_pat N) (F61_parF N)
/-! ### seismonet/nat.compare (function 44) -/
def F44_an : Nat → Keep × Keep := anL [(8, ⟨[5], [], [], [(0, 1), (1, 1)], [], [], [], [], false⟩, ⟨[4], [], [], [], [], [], [], [], false⟩)]
noncomputable def F44_g (N : Nat) : GamK := gam (P := Tryz.prog) [F61_e N]
noncomputable def F44_l8 (N : Nat) : LSpec where
  X := (List (List AV)) × (List (List AV)) × Int
  Y := (Int) ⊕ (Unit)
  p := fun s => match s.env.length, s.nin, s.at 0, s.at 1, s.at 5 with
    | 41, 0, (AV.list 1 a0 none), (AV.list 1 a1 none), (AV.v (.int .i64 a2)) => some (a0, a1, a2)
    | _, _, _, _, _ => none
  st := fun x => mkS 41 [(0, (AV.list 1 x.1 none)), (1, (AV.list 1 x.2.1 none)), (5, (AV.v (.int .i64 x.2.2)))] [] (F44_an 8).1.toks 0
  out := fun y => match y with
    | .inl y => (.ret, mkS 41 [(4, (AV.v (.int .i64 y)))] [] (F44_an 8).2.toks 0)
    | .inr y => (.exit 0, mkS 41 [] [] (F44_an 8).2.toks 0)
  sp := fun y α k => match y with
    | .inl y => k (.ret, mkS 41 [(4, (AV.v (.int .i64 y)))] [] (F44_an 8).2.toks 0)
    | .inr y => k (.exit 0, mkS 41 [] [] (F44_an 8).2.toks 0)
  spe := fun y α k => by rcases y with _ | _ <;> rfl
  b := fun x α kn ke => (match (decide (x.2.2 ≥ 0)) with | true => (if 0 ≤ x.2.2 then (match x.1[x.2.2.toNat]? with | some c2 => (match c2[0]? with | some x3 => (match x3 with | .v (.int q5 n4) => (if q5 = .i64 then (if 0 ≤ x.2.2 then (match x.2.1[x.2.2.toNat]? with | some c6 => (match c6[0]? with | some x7 => (match x7 with | .v (.int q9 n8) => (if q9 = .i64 then (match (n4 != n8) with | true => (if 0 ≤ x.2.2 then (match x.1[x.2.2.toNat]? with | some c10 => (match c10[0]? with | some x11 => (match x11 with | .v (.int q13 n12) => (if q13 = .i64 then (if 0 ≤ x.2.2 then (match x.2.1[x.2.2.toNat]? with | some c14 => (match c14[0]? with | some x15 => (match x15 with | .v (.int q17 n16) => (if q17 = .i64 then (match F61_d N (n12, n16) with | some y18 => (ke (.inl y18)) | none => none) else none) | _ => none) | none => none) | none => none) else none) else none) | _ => none) | none => none) | none => none) else none) | false => (kn (x.1, x.2.1, (i64 (x.2.2 - 1))))) else none) | _ => none) | none => none) | none => none) else none) else none) | _ => none) | none => none) | none => none) else none) | false => (ke (.inr ())))
noncomputable abbrev F44_d8 (N : Nat) (x : (List (List AV)) × (List (List AV)) × Int) : Option ((Int) ⊕ (Unit)) := (F44_l8 N).L N x
noncomputable def F44_s (N : Nat) : FSpec where
  X := (List (List AV)) × (List (List AV))
  Y := Int
  ash := [[some 1], [some 1]]
  bsh := []
  S := ⟨[[none]], [], [], [], []⟩
  bm := false
  pat := fun a b => match a, b with
    | [(AV.list 1 a0 none), (AV.list 1 a1 none)], [] => some (a0, a1)
    | _, _ => none
  args := fun x => [(AV.list 1 x.1 none), (AV.list 1 x.2 none)]
  bs := fun x => []
  ret := fun y => ⟨(AV.v (.int .i64 y)), [], none, [], [], []⟩
  t := fun x α k => (match ((x.1.length : Int) != (x.2.length : Int)) with | true => (match F61_d N ((x.1.length : Int), (x.2.length : Int)) with | some y1 => (k y1) | none => none) | false => (match F44_d8 N (x.1, x.2, (i64 ((x.1.length : Int) - 1))) with | some y19 => (match y19 with | .inl z20 => (k z20) | .inr z21 => (k 0)) | none => none))
noncomputable abbrev F44_d (N : Nat) (x : (List (List AV)) × (List (List AV))) : Option (Int) := (F44_s N).d x
theorem F44_par8 (N : Nat) : Par (F44_l8 N).b := by
  intro x α β kn ke kn' ke' r r' h h1 h2
  revert h
  dsimp only [F44_l8]
  (repeat' (first | (with_reducible refine par_ite ?_ ?_) | (with_reducible refine par_both ?_ ?_) | split)) <;> intro h <;> first | exact h1 _ h | exact h2 _ h | (cases h; done)
theorem F44_body8 (N : Nat) (x : (F44_l8 N).X) (α : Type) (kn : AS → Option α) (ke : Out → Option α) : around (tabOf Tryz.prog) (F44_g N) F44_an (lam N [(8, F44_l8 N)]) 8 (bodyOf (nthLoop 8 (Tryz.f44.body.getD .skip))) ((F44_l8 N).st x) kn ke = (F44_l8 N).b x α (fun x' => kn ((F44_l8 N).st x')) (fun y => (F44_l8 N).sp y α ke) := by kernel_rfl
theorem F44_pat8 (N : Nat) (s : AS) (x : (F44_l8 N).X) (hc : s = canon (F44_an 8).1 s) (h : (F44_l8 N).p s = some x) : s = (F44_l8 N).st x := by
  dsimp only [F44_l8] at h
  split at h
  · cases h
    exact canon_mk hc ‹_› ‹_› rfl rfl rfl ⟨‹_›, ‹_›, ‹_›, trivial⟩ trivial
  · cases h
theorem F44_loop8 (N : Nat) : ∀ s o, s = canon (F44_an 8).1 s → (lam N [(8, F44_l8 N)]).v 8 s = some o → LoopSem Tryz.prog (nthLoop 8 (Tryz.f44.body.getD .skip)) s o :=
  loop_ok (tabOf_ok Tryz.prog) (gam_ok _) mixed F44_an N [(8, F44_l8 N)] 8 (bodyOf (nthLoop 8 (Tryz.f44.body.getD .skip))) (nthLoop 8 (Tryz.f44.body.getD .skip)) (by kernel_rfl) (by
    have e : actOf F44_an (bodyOf (nthLoop 8 (Tryz.f44.body.getD .skip))) (8 + 1) = [] := by kernel_rfl
    rw [e]
    intro p hp
    cases hp) (F44_l8 N) rfl (fun s x hc h => F44_pat8 N s x hc h) (fun x => rfl) (fun x α kn ke => (F44_body8 N x α kn ke).trans (congrArg ((F44_l8 N).b x α _) (funext fun y => (F44_l8 N).spe y α ke))) (F44_par8 N)
theorem F44_parF (N : Nat) : ParF (F44_s N).t := by
  intro x α β k k' r r' h h1
  revert h
  dsimp only [F44_s]
  (repeat' (first | (with_reducible refine par_ite ?_ ?_) | (with_reducible refine par_both ?_ ?_) | split)) <;> intro h <;> first | exact h1 _ h | (cases h; done)
theorem F44_text (N : Nat) (x : (F44_s N).X) : acall (tabOf Tryz.prog) (F44_g N) F44_an (lam N [(8, F44_l8 N)]) Tryz.f44 (F44_s N).S ((F44_s N).args x) ((F44_s N).bs x) = (F44_s N).t x Ret (fun y => some ((F44_s N).ret y)) := by kernel_rfl
theorem F44_pat (N : Nat) (a : List AV) (b : List (List AV)) (x : (F44_s N).X) (h : (F44_s N).pat a b = some x) : a = (F44_s N).args x ∧ b = (F44_s N).bs x := by
  dsimp only [F44_s] at h
  split at h
  · cases h; exact ⟨rfl, rfl⟩
  · cases h
noncomputable def F44_e (N : Nat) : Ent Tryz.prog := entOf (tabOf_ok Tryz.prog) (gam_ok _) mixed 44 Tryz.f44 Tryz.func44 rfl F44_an (lam N [(8, F44_l8 N)]) (by
    have e : actOf F44_an (Tryz.f44.body.getD .skip) 0 = [(8, nthLoop 8 (Tryz.f44.body.getD .skip))] := by kernel_rfl
    rw [e]
    intro p hp
    rcases List.mem_cons.1 hp with rfl | hp
    · exact F44_loop8 N
    cases hp) (F44_s N) (fun _ => ⟨rfl, rfl⟩) (F44_text N) (F44_pat N) (F44_parF N)
/-! ### seismonet/nat.Compare (function 16) -/
def F16_an : Nat → Keep × Keep := anL []
noncomputable def F16_g (N : Nat) : GamK := gam (P := Tryz.prog) [F40_e N, F44_e N]
noncomputable def F16_s (N : Nat) : FSpec where
  X := (List (List AV)) × (List (List AV))
  Y := Int
  ash := [[some 1], [some 1]]
  bsh := []
  S := ⟨[[none]], [], [], [], []⟩
  bm := false
  pat := fun a b => match a, b with
    | [(AV.list 1 a0 none), (AV.list 1 a1 none)], [] => some (a0, a1)
    | _, _ => none
  args := fun x => [(AV.list 1 x.1 none), (AV.list 1 x.2 none)]
  bs := fun x => []
  ret := fun y => ⟨(AV.v (.int .i64 y)), [], none, [], [], []⟩
  t := fun x α k => (match F40_d N (x.1, x.2) with | some y1 => (match (!y1) with | true => (k 0) | false => (match F44_d N (x.1, x.2) with | some y2 => (k y2) | none => none)) | none => none)
noncomputable abbrev F16_d (N : Nat) (x : (List (List AV)) × (List (List AV))) : Option (Int) := (F16_s N).d x
theorem F16_parF (N : Nat) : ParF (F16_s N).t := by
  intro x α β k k' r r' h h1
  revert h
  dsimp only [F16_s]
  (repeat' (first | (with_reducible refine par_ite ?_ ?_) | (with_reducible refine par_both ?_ ?_) | split)) <;> intro h <;> first | exact h1 _ h | (cases h; done)
theorem F16_text (N : Nat) (x : (F16_s N).X) : acall (tabOf Tryz.prog) (F16_g N) F16_an (lam N []) Tryz.f16 (F16_s N).S ((F16_s N).args x) ((F16_s N).bs x) = (F16_s N).t x Ret (fun y => some ((F16_s N).ret y)) := by kernel_rfl
theorem F16_pat (N : Nat) (a : List AV) (b : List (List AV)) (x : (F16_s N).X) (h : (F16_s N).pat a b = some x) : a = (F16_s N).args x ∧ b = (F16_s N).bs x := by
  dsimp only [F16_s] at h
  split at h
  · cases h; exact ⟨rfl, rfl⟩
  · cases h
noncomputable def F16_e (N : Nat) : Ent Tryz.prog := entOf (tabOf_ok Tryz.prog) (gam_ok _) mixed 16 Tryz.f16 Tryz.func16 rfl F16_an (lam N []) (by
    have e : actOf F16_an (Tryz.f16.body.getD .skip) 0 = [] := by kernel_rfl
    rw [e]
    intro p hp
    cases hp) (F16_s N) (fun _ => ⟨rfl, rfl⟩) (F16_text N) (F16_pat N) (F16_parF N)
/-! ### seismonet/nat.digit (function 41) -/
def F41_an : Nat → Keep × Keep := anL []
noncomputable def F41_g (N : Nat) : GamK := gam (P := Tryz.prog) []
noncomputable def F41_s (N : Nat) : FSpec where
  X := (List (List AV)) × Int
  Y := Int
  ash := [[some 1], [none]]
  bsh := []
  S := ⟨[[none]], [], [], [], []⟩
  bm := false
  pat := fun a b => match a, b with
    | [(AV.list 1 a0 none), (AV.v (.int .i64 a1))], [] => some (a0, a1)
    | _, _ => none
  args := fun x => [(AV.list 1 x.1 none), (AV.v (.int .i64 x.2))]
  bs := fun x => []
  ret := fun y => ⟨(AV.v (.int .i64 y)), [], none, [], [], []⟩
  t := fun x α k => (match (decide (x.2 ≥ (x.1.length : Int))) with | true => (k 0) | false => (if 0 ≤ x.2 then (match x.1[x.2.toNat]? with | some c1 => (match c1[0]? with | some x2 => (match x2 with | .v (.int q4 n3) => (if q4 = .i64 then (k n3) else none) | _ => none) | none => none) | none => none) else none))
noncomputable abbrev F41_d (N : Nat) (x : (List (List AV)) × Int) : Option (Int) := (F41_s N).d x
theorem F41_parF (N : Nat) : ParF (F41_s N).t := by
  intro x α β k k' r r' h h1
  revert h
  dsimp only [F41_s]
  (repeat' (first | (with_reducible refine par_ite ?_ ?_) | (with_reducible refine par_both ?_ ?_) | split)) <;> intro h <;> first | exact h1 _ h | (cases h; done)
theorem F41_text (N : Nat) (x : (F41_s N).X) : acall (tabOf Tryz.prog) (F41_g N) F41_an (lam N []) Tryz.f41 (F41_s N).S ((F41_s N).args x) ((F41_s N).bs x) = (F41_s N).t x Ret (fun y => some ((F41_s N).ret y)) := by kernel_rfl
theorem F41_pat (N : Nat) (a : List AV) (b : List (List AV)) (x : (F41_s N).X) (h : (F41_s N).pat a b = some x) : a = (F41_s N).args x ∧ b = (F41_s N).bs x := by
  dsimp only [F41_s] at h
  split at h
  · cases h; exact ⟨rfl, rfl⟩
  · cases h
noncomputable def F41_e (N : Nat) : Ent Tryz.prog := entOf (tabOf_ok Tryz.prog) (gam_ok _) mixed 41 Tryz.f41 Tryz.func41 rfl F41_an (lam N []) (by
    have e : actOf F41_an (Tryz.f41.body.getD .skip) 0 = [] := by kernel_rfl
    rw [e]
    intro p hp
    cases hp) (F41_s N) (fun _ => ⟨rfl, rfl⟩) (F41_text N) (F41_pat N) (F41_parF N)
/-! ### seismonet/nat.Add (function 9) -/
def F9_an : Nat → Keep × Keep := anL [(10, ⟨[7, 18, 19], [(6, 1)], [], [(0, 1), (1, 1)], [], [], [], [], false⟩, ⟨[], [(6, 1)], [], [], [], [], [], [], false⟩)]
noncomputable def F9_g (N : Nat) : GamK := gam (P := Tryz.prog) [F40_e N, F41_e N, F42_e N]
noncomputable def F9_l10 (N : Nat) : LSpec where
  X := (List (List AV)) × (List (List AV)) × (List (List AV)) × Int × Int × Int
  Y := ((List (List AV)))
  p := fun s => match s.env.length, s.nin, s.at 6, s.at 0, s.at 1, s.at 7, s.at 18, s.at 19 with
    | 43, 0, (AV.list 1 a0 (some 1280000384)), (AV.list 1 a1 none), (AV.list 1 a2 none), (AV.v (.int .i64 a3)), (AV.v (.int .i64 a4)), (AV.v (.int .i64 a5)) => some (a0, a1, a2, a3, a4, a5)
    | _, _, _, _, _, _, _, _ => none
  st := fun x => mkS 43 [(6, (AV.list 1 x.1 (some 1280000384))), (0, (AV.list 1 x.2.1 none)), (1, (AV.list 1 x.2.2.1 none)), (7, (AV.v (.int .i64 x.2.2.2.1))), (18, (AV.v (.int .i64 x.2.2.2.2.1))), (19, (AV.v (.int .i64 x.2.2.2.2.2)))] [] (F9_an 10).1.toks 0
  out := fun y => (.exit 0, mkS 43 [(6, (AV.list 1 y (some 1280000384)))] [] (F9_an 10).2.toks 0)
  sp := fun y α k => k (.exit 0, mkS 43 [(6, (AV.list 1 y (some 1280000384)))] [] (F9_an 10).2.toks 0)
  spe := fun y α k => rfl
  b := fun x α kn ke => (match (decide (x.2.2.2.2.2 < x.2.2.2.2.1)) with | true => (match F41_d N (x.2.1, x.2.2.2.2.2) with | some y2 => (match F41_d N (x.2.2.1, x.2.2.2.2.2) with | some y3 => (if (x.1.length + [[(AV.v (.int .i64 ((i64 (x.2.2.2.1 + (i64 (y2 + y3)))).tmod 1073741824)))]].length) * 8 ≤ maxBytes then (kn ((x.1 ++ [[(AV.v (.int .i64 ((i64 (x.2.2.2.1 + (i64 (y2 + y3)))).tmod 1073741824)))]]), x.2.1, x.2.2.1, (shR .i64 (i64 (x.2.2.2.1 + (i64 (y2 + y3)))) (30 : Int)), x.2.2.2.2.1, (i64 (x.2.2.2.2.2 + 1)))) else none) | none => none) | none => none) | false => (ke x.1))
noncomputable abbrev F9_d10 (N : Nat) (x : (List (List AV)) × (List (List AV)) × (List (List AV)) × Int × Int × Int) : Option (((List (List AV)))) := (F9_l10 N).L N x
noncomputable def F9_s (N : Nat) : FSpec where
  X := (List (List AV)) × (List (List AV))
  Y := (List (List AV)) × Int
  ash := [[some 1], [some 1]]
  bsh := []
  S := ⟨[[some 1], [none]], [], [], [], []⟩
  bm := false
  pat := fun a b => match a, b with
    | [(AV.list 1 a0 none), (AV.list 1 a1 none)], [] => some (a0, a1)
    | _, _ => none
  args := fun x => [(AV.list 1 x.1 none), (AV.list 1 x.2 none)]
  bs := fun x => []
  ret := fun y => ⟨(AV.tup [(AV.list 1 y.1 none), (AV.v (.int .i64 y.2))]), [], none, [], [], []⟩
  t := fun x α k => (match F40_d N (x.1, x.2) with | some y1 => (match (!y1) with | true => (k (([] : List (List AV)), 1)) | false => (match F9_d10 N (([] : List (List AV)), x.1, x.2, 0, (i64 ((if (x.2.length : Int) > (x.1.length : Int) then (x.2.length : Int) else (x.1.length : Int)) + 1)), 0) with | some y4 => (match F42_d N y4 with | some y5 => (k (y5.1, y5.2)) | none => none) | none => none)) | none => none)
noncomputable abbrev F9_d (N : Nat) (x : (List (List AV)) × (List (List AV))) : Option ((List (List AV)) × Int) := (F9_s N).d x
theorem F9_par10 (N : Nat) : Par (F9_l10 N).b := by
  intro x α β kn ke kn' ke' r r' h h1 h2
  revert h
  dsimp only [F9_l10]
  (repeat' (first | (with_reducible refine par_ite ?_ ?_) | (with_reducible refine par_both ?_ ?_) | split)) <;> intro h <;> first | exact h1 _ h | exact h2 _ h | (cases h; done)
theorem F9_body10 (N : Nat) (x : (F9_l10 N).X) (α : Type) (kn : AS → Option α) (ke : Out → Option α) : around (tabOf Tryz.prog) (F9_g N) F9_an (lam N [(10, F9_l10 N)]) 10 (bodyOf (nthLoop 10 (Tryz.f9.body.getD .skip))) ((F9_l10 N).st x) kn ke = (F9_l10 N).b x α (fun x' => kn ((F9_l10 N).st x')) (fun y => (F9_l10 N).sp y α ke) := by kernel_rfl
theorem F9_pat10 (N : Nat) (s : AS) (x : (F9_l10 N).X) (hc : s = canon (F9_an 10).1 s) (h : (F9_l10 N).p s = some x) : s = (F9_l10 N).st x := by
  dsimp only [F9_l10] at h
  split at h
  · cases h
    exact canon_mk hc ‹_› ‹_› rfl rfl rfl ⟨‹_›, ‹_›, ‹_›, ‹_›, ‹_›, ‹_›, trivial⟩ trivial
  · cases h
theorem F9_loop10 (N : Nat) : ∀ s o, s = canon (F9_an 10).1 s → (lam N [(10, F9_l10 N)]).v 10 s = some o → LoopSem Tryz.prog (nthLoop 10 (Tryz.f9.body.getD .skip)) s o :=
  loop_ok (tabOf_ok Tryz.prog) (gam_ok _) mixed F9_an N [(10, F9_l10 N)] 10 (bodyOf (nthLoop 10 (Tryz.f9.body.getD .skip))) (nthLoop 10 (Tryz.f9.body.getD .skip)) (by kernel_rfl) (by
    have e : actOf F9_an (bodyOf (nthLoop 10 (Tryz.f9.body.getD .skip))) (10 + 1) = [] := by kernel_rfl
    rw [e]
    intro p hp
    cases hp) (F9_l10 N) rfl (fun s x hc h => F9_pat10 N s x hc h) (fun x => rfl) (fun x α kn ke => (F9_body10 N x α kn ke).trans (congrArg ((F9_l10 N).b x α _) (funext fun y => (F9_l10 N).spe y α ke))) (F9_par10 N)
theorem F9_parF (N : Nat) : ParF (F9_s N).t := by
  intro x α β k k' r r' h h1
  revert h
  dsimp only [F9_s]
  (repeat' (first | (with_reducible refine par_ite ?_ ?_) | (with_reducible refine par_both ?_ ?_) | split)) <;> intro h <;> first | exact h1 _ h | (cases h; done)
theorem F9_text (N : Nat) (x : (F9_s N).X) : acall (tabOf Tryz.prog) (F9_g N) F9_an (lam N [(10, F9_l10 N)]) Tryz.f9 (F9_s N).S ((F9_s N).args x) ((F9_s N).bs x) = (F9_s N).t x Ret (fun y => some ((F9_s N).ret y)) := by kernel_rfl
theorem F9_pat (N : Nat) (a : List AV) (b : List (List AV)) (x : (F9_s N).X) (h : (F9_s N).pat a b = some x) : a = (F9_s N).args x ∧ b = (F9_s N).bs x := by
  dsimp only [F9_s] at h
  split at h
  · cases h; exact ⟨rfl, rfl⟩
  · cases h
noncomputable def F9_e (N : Nat) : Ent Tryz.prog := entOf (tabOf_ok Tryz.prog) (gam_ok _) mixed 9 Tryz.f9 Tryz.func9 rfl F9_an (lam N [(10, F9_l10 N)]) (by
    have e : actOf F9_an (Tryz.f9.body.getD .skip) 0 = [(10, nthLoop 10 (Tryz.f9.body.getD .skip))] := by kernel_rfl
    rw [e]
    intro p hp
    rcases List.mem_cons.1 hp with rfl | hp
    · exact F9_loop10 N
    cases hp) (F9_s N) (fun _ => ⟨rfl, rfl⟩) (F9_text N) (F9_pat N) (F9_parF N)
/-! ### seismonet/nat.Sub (function 11) -/
def F11_an : Nat → Keep × Keep := anL [(14, ⟨[7, 19, 20], [(6, 1)], [], [(0, 1), (1, 1)], [], [], [], [], false⟩, ⟨[], [(6, 1)], [], [], [], [], [], [], false⟩)]
noncomputable def F11_g (N : Nat) : GamK := gam (P := Tryz.prog) [F40_e N, F44_e N, F41_e N, F42_e N]
noncomputable def F11_l14 (N : Nat) : LSpec where
  X := (List (List AV)) × (List (List AV)) × (List (List AV)) × Int × Int × Int
  Y := ((List (List AV)))
  p := fun s => match s.env.length, s.nin, s.at 6, s.at 0, s.at 1, s.at 7, s.at 19, s.at 20 with
    | 46, 0, (AV.list 1 a0 (some 1280000384)), (AV.list 1 a1 none), (AV.list 1 a2 none), (AV.v (.int .i64 a3)), (AV.v (.int .i64 a4)), (AV.v (.int .i64 a5)) => some (a0, a1, a2, a3, a4, a5)
    | _, _, _, _, _, _, _, _ => none
  st := fun x => mkS 46 [(6, (AV.list 1 x.1 (some 1280000384))), (0, (AV.list 1 x.2.1 none)), (1, (AV.list 1 x.2.2.1 none)), (7, (AV.v (.int .i64 x.2.2.2.1))), (19, (AV.v (.int .i64 x.2.2.2.2.1))), (20, (AV.v (.int .i64 x.2.2.2.2.2)))] [] (F11_an 14).1.toks 0
  out := fun y => (.exit 0, mkS 46 [(6, (AV.list 1 y (some 1280000384)))] [] (F11_an 14).2.toks 0)
  sp := fun y α k => k (.exit 0, mkS 46 [(6, (AV.list 1 y (some 1280000384)))] [] (F11_an 14).2.toks 0)
  spe := fun y α k => rfl
  b := fun x α kn ke => (match (decide (x.2.2.2.2.2 < x.2.2.2.2.1)) with | true => (if 0 ≤ x.2.2.2.2.2 then (match x.2.1[x.2.2.2.2.2.toNat]? with | some c3 => (match c3[0]? with | some x4 => (match x4 with | .v (.int q6 n5) => (if q6 = .i64 then (match F41_d N (x.2.2.1, x.2.2.2.2.2) with | some y7 => (match (decide ((i64 ((i64 (n5 - y7)) - x.2.2.2.1)) < 0)) with | true => (if (x.1.length + [[(AV.v (.int .i64 (i64 ((i64 ((i64 (n5 - y7)) - x.2.2.2.1)) + 1073741824))))]].length) * 8 ≤ maxBytes then (kn ((x.1 ++ [[(AV.v (.int .i64 (i64 ((i64 ((i64 (n5 - y7)) - x.2.2.2.1)) + 1073741824))))]]), x.2.1, x.2.2.1, 1, x.2.2.2.2.1, (i64 (x.2.2.2.2.2 + 1)))) else none) | false => (if (x.1.length + [[(AV.v (.int .i64 (i64 ((i64 (n5 - y7)) - x.2.2.2.1))))]].length) * 8 ≤ maxBytes then (kn ((x.1 ++ [[(AV.v (.int .i64 (i64 ((i64 (n5 - y7)) - x.2.2.2.1))))]]), x.2.1, x.2.2.1, 0, x.2.2.2.2.1, (i64 (x.2.2.2.2.2 + 1)))) else none)) | none => none) else none) | _ => none) | none => none) | none => none) else none) | false => (ke x.1))
noncomputable abbrev F11_d14 (N : Nat) (x : (List (List AV)) × (List (List AV)) × (List (List AV)) × Int × Int × Int) : Option (((List (List AV)))) := (F11_l14 N).L N x
noncomputable def F11_s (N : Nat) : FSpec where
  X := (List (List AV)) × (List (List AV))
  Y := (List (List AV)) × Int
  ash := [[some 1], [some 1]]
  bsh := []
  S := ⟨[[some 1], [none]], [], [], [], []⟩
  bm := false
  pat := fun a b => match a, b with
    | [(AV.list 1 a0 none), (AV.list 1 a1 none)], [] => some (a0, a1)
    | _, _ => none
  args := fun x => [(AV.list 1 x.1 none), (AV.list 1 x.2 none)]
  bs := fun x => []
  ret := fun y => ⟨(AV.tup [(AV.list 1 y.1 none), (AV.v (.int .i64 y.2))]), [], none, [], [], []⟩
  t := fun x α k => (match F40_d N (x.1, x.2) with | some y1 => (match (!y1) with | true => (k (([] : List (List AV)), 1)) | false => (match F44_d N (x.1, x.2) with | some y2 => (match (decide (y2 < 0)) with | true => (k (([] : List (List AV)), 2)) | false => (match F11_d14 N (([] : List (List AV)), x.1, x.2, 0, (x.1.length : Int), 0) with | some y8 => (match F42_d N y8 with | some y9 => (k (y9.1, y9.2)) | none => none) | none => none)) | none => none)) | none => none)
noncomputable abbrev F11_d (N : Nat) (x : (List (List AV)) × (List (List AV))) : Option ((List (List AV)) × Int) := (F11_s N).d x
theorem F11_par14 (N : Nat) : Par (F11_l14 N).b := by
  intro x α β kn ke kn' ke' r r' h h1 h2
  revert h
  dsimp only [F11_l14]
  (repeat' (first | (with_reducible refine par_ite ?_ ?_) | (with_reducible refine par_both ?_ ?_) | split)) <;> intro h <;> first | exact h1 _ h | exact h2 _ h | (cases h; done)
theorem F11_body14 (N : Nat) (x : (F11_l14 N).X) (α : Type) (kn : AS → Option α) (ke : Out → Option α) : around (tabOf Tryz.prog) (F11_g N) F11_an (lam N [(14, F11_l14 N)]) 14 (bodyOf (nthLoop 14 (Tryz.f11.body.getD .skip))) ((F11_l14 N).st x) kn ke = (F11_l14 N).b x α (fun x' => kn ((F11_l14 N).st x')) (fun y => (F11_l14 N).sp y α ke) := by kernel_rfl
theorem F11_pat14 (N : Nat) (s : AS) (x : (F11_l14 N).X) (hc : s = canon (F11_an 14).1 s) (h : (F11_l14 N).p s = some x) : s = (F11_l14 N).st x := by
  dsimp only [F11_l14] at h
  split at h
  · cases h
    exact canon_mk hc ‹_› ‹_› rfl rfl rfl ⟨‹_›, ‹_›, ‹_›, ‹_›, ‹_›, ‹_›, trivial⟩ trivial
  · cases h
theorem F11_loop14 (N : Nat) : ∀ s o, s = canon (F11_an 14).1 s → (lam N [(14, F11_l14 N)]).v 14 s = some o → LoopSem Tryz.prog (nthLoop 14 (Tryz.f11.body.getD .skip)) s o :=
  loop_ok (tabOf_ok Tryz.prog) (gam_ok _) mixed F11_an N [(14, F11_l14 N)] 14 (bodyOf (nthLoop 14 (Tryz.f11.body.getD .skip))) (nthLoop 14 (Tryz.f11.body.getD .skip)) (by kernel_rfl) (by
    have e : actOf F11_an (bodyOf (nthLoop 14 (Tryz.f11.body.getD .skip))) (14 + 1) = [] := by kernel_rfl
    rw [e]
    intro p hp
    cases hp) (F11_l14 N) rfl (fun s x hc h => F11_pat14 N s x hc h) (fun x => rfl) (fun x α kn ke => (F11_body14 N x α kn ke).trans (congrArg ((F11_l14 N).b x α _) (funext fun y => (F11_l14 N).spe y α ke))) (F11_par14 N)
theorem F11_parF (N : Nat) : ParF (F11_s N).t := by
  intro x α β k k' r r' h h1
  revert h
  dsimp only [F11_s]
  (repeat' (first | (with_reducible refine par_ite ?_ ?_) | (with_reducible refine par_both ?_ ?_) | split)) <;> intro h <;> first | exact h1 _ h | (cases h; done)
theorem F11_text (N : Nat) (x : (F11_s N).X) : acall (tabOf Tryz.prog) (F11_g N) F11_an (lam N [(14, F11_l14 N)]) Tryz.f11 (F11_s N).S ((F11_s N).args x) ((F11_s N).bs x) = (F11_s N).t x Ret (fun y => some ((F11_s N).ret y)) := by kernel_rfl
theorem F11_pat (N : Nat) (a : List AV) (b : List (List AV)) (x : (F11_s N).X) (h : (F11_s N).pat a b = some x) : a = (F11_s N).args x ∧ b = (F11_s N).bs x := by
  dsimp only [F11_s] at h
  split at h
  · cases h; exact ⟨rfl, rfl⟩
  · cases h
noncomputable def F11_e (N : Nat) : Ent Tryz.prog := entOf (tabOf_ok Tryz.prog) (gam_ok _) mixed 11 Tryz.f11 Tryz.func11 rfl F11_an (lam N [(14, F11_l14 N)]) (by
    have e : actOf F11_an (Tryz.f11.body.getD .skip) 0 = [(14, nthLoop 14 (Tryz.f11.body.getD .skip))] := by kernel_rfl
    rw [e]
    intro p hp
    rcases List.mem_cons.1 hp with rfl | hp
    · exact F11_loop14 N
    cases hp) (F11_s N) (fun _ => ⟨rfl, rfl⟩) (F11_text N) (F11_pat N) (F11_parF N)
/-! ### seismonet/nat.multiply (function 47) -/
def F47_an : Nat → Keep × Keep := anF [(5, ⟨[5, 17, 18], [], [15], [(1, 1), (16, 1)], [], [], [], [15], false⟩, ⟨[5], [], [15], [], [], [], [], [15], false⟩), (15, ⟨[5, 6, 7, 8, 17, 18, 25, 26], [], [15], [(1, 1), (16, 1)], [], [], [], [15], false⟩, ⟨[5, 17, 18], [], [15], [(1, 1), (16, 1)], [], [], [], [15], false⟩)] [(100015, ([5], []))]
noncomputable def F47_g (N : Nat) : GamK := gam (P := Tryz.prog) [F41_e N, F60_e N]
noncomputable def F47_l15 (N : Nat) : LSpec where
  X := (List (List AV)) × (List (List AV)) × Nat × Int × Int × Int × Int × Int × Int × Int × (List AV)
  Y := ((List (List AV)) × (List (List AV)) × Nat × Int × Int × (List AV))
  p := fun s => match s.env.length, s.nin, s.at 1, s.at 16, s.at 5, s.at 6, s.at 7, s.at 8, s.at 17, s.at 18, s.at 25, s.at 26, s.bx 15 with
    | 62, 0, (AV.list 1 a0 none), (AV.list 1 a1 none), (AV.vs 15 0 a2 1), (AV.v (.int .i64 a3)), (AV.v (.int .i64 a4)), (AV.v (.int .i64 a5)), (AV.v (.int .i64 a6)), (AV.v (.int .i64 a7)), (AV.v (.int .i64 a8)), (AV.v (.int .i64 a9)), some a10 => some (a0, a1, a2, a3, a4, a5, a6, a7, a8, a9, a10)
    | _, _, _, _, _, _, _, _, _, _, _, _, _ => none
  st := fun x => mkS 62 [(1, (AV.list 1 x.1 none)), (16, (AV.list 1 x.2.1 none)), (5, (AV.vs 15 0 x.2.2.1 1)), (6, (AV.v (.int .i64 x.2.2.2.1))), (7, (AV.v (.int .i64 x.2.2.2.2.1))), (8, (AV.v (.int .i64 x.2.2.2.2.2.1))), (17, (AV.v (.int .i64 x.2.2.2.2.2.2.1))), (18, (AV.v (.int .i64 x.2.2.2.2.2.2.2.1))), (25, (AV.v (.int .i64 x.2.2.2.2.2.2.2.2.1))), (26, (AV.v (.int .i64 x.2.2.2.2.2.2.2.2.2.1)))] [(15, x.2.2.2.2.2.2.2.2.2.2)] (F47_an 15).1.toks 0
  out := fun y => (.exit 2, mkS 62 [(1, (AV.list 1 y.1 none)), (16, (AV.list 1 y.2.1 none)), (5, (AV.vs 15 0 y.2.2.1 1)), (17, (AV.v (.int .i64 y.2.2.2.1))), (18, (AV.v (.int .i64 y.2.2.2.2.1)))] [(15, y.2.2.2.2.2)] (F47_an 15).2.toks 0)
  sp := fun y α k => k (.exit 2, mkS 62 [(1, (AV.list 1 y.1 none)), (16, (AV.list 1 y.2.1 none)), (5, (AV.vs 15 0 y.2.2.1 1)), (17, (AV.v (.int .i64 y.2.2.2.1))), (18, (AV.v (.int .i64 y.2.2.2.2.1)))] [(15, y.2.2.2.2.2)] (F47_an 15).2.toks 0)
  spe := fun y α k => rfl
  b := fun x α kn ke => (match (decide (x.2.2.2.2.2.2.2.2.2.1 < x.2.2.2.2.2.2.2.2.1)) with | true => (match (decide ((i64 (x.2.2.2.1 + x.2.2.2.2.2.2.2.2.2.1)) < ((x.2.2.1 : Nat) : Int))) with | true => (if 0 ≤ (i64 (x.2.2.2.1 + x.2.2.2.2.2.2.2.2.2.1)) ∧ (i64 (x.2.2.2.1 + x.2.2.2.2.2.2.2.2.2.1)) < (x.2.2.1 : Int) then (match x.2.2.2.2.2.2.2.2.2.2[((0 + (i64 (x.2.2.2.1 + x.2.2.2.2.2.2.2.2.2.1)).toNat) * 1)]? with | some x9 => (match x9 with | .v (.int q11 n10) => (if q11 = .i64 then (match F41_d N (x.1, x.2.2.2.2.2.2.2.2.2.1) with | some y12 => (if 0 ≤ (i64 (x.2.2.2.1 + x.2.2.2.2.2.2.2.2.2.1)) ∧ (i64 (x.2.2.2.1 + x.2.2.2.2.2.2.2.2.2.1)) < (x.2.2.1 : Int) then (if ((0 + (i64 (x.2.2.2.1 + x.2.2.2.2.2.2.2.2.2.1)).toNat) * 1) + 1 ≤ x.2.2.2.2.2.2.2.2.2.2.length then (kn (x.1, x.2.1, x.2.2.1, x.2.2.2.1, x.2.2.2.2.1, (shR .i64 (i64 (x.2.2.2.2.2.1 + (i64 (n10 + (i64 (x.2.2.2.2.1 * y12)))))) (30 : Int)), x.2.2.2.2.2.2.1, x.2.2.2.2.2.2.2.1, x.2.2.2.2.2.2.2.2.1, (i64 (x.2.2.2.2.2.2.2.2.2.1 + 1)), ((x.2.2.2.2.2.2.2.2.2.2.set (((0 + (i64 (x.2.2.2.1 + x.2.2.2.2.2.2.2.2.2.1)).toNat) * 1)) (AV.v (.int .i64 ((i64 (x.2.2.2.2.2.1 + (i64 (n10 + (i64 (x.2.2.2.2.1 * y12)))))).tmod 1073741824)))).map dat0))) else none) else none) | none => none) else none) | _ => none) | none => none) else none) | false => (kn (x.1, x.2.1, x.2.2.1, x.2.2.2.1, x.2.2.2.2.1, x.2.2.2.2.2.1, x.2.2.2.2.2.2.1, x.2.2.2.2.2.2.2.1, x.2.2.2.2.2.2.2.2.1, (i64 (x.2.2.2.2.2.2.2.2.2.1 + 1)), (x.2.2.2.2.2.2.2.2.2.2.map dat0)))) | false => (ke (x.1, x.2.1, x.2.2.1, x.2.2.2.2.2.2.1, x.2.2.2.2.2.2.2.1, (x.2.2.2.2.2.2.2.2.2.2.map dat0))))
noncomputable abbrev F47_d15 (N : Nat) (x : (List (List AV)) × (List (List AV)) × Nat × Int × Int × Int × Int × Int × Int × Int × (List AV)) : Option (((List (List AV)) × (List (List AV)) × Nat × Int × Int × (List AV))) := (F47_l15 N).L N x
noncomputable def F47_l5 (N : Nat) : LSpec where
  X := (List (List AV)) × (List (List AV)) × Nat × Int × Int × (List AV)
  Y := (Nat × (List AV))
  p := fun s => match s.env.length, s.nin, s.at 1, s.at 16, s.at 5, s.at 17, s.at 18, s.bx 15 with
    | 62, 0, (AV.list 1 a0 none), (AV.list 1 a1 none), (AV.vs 15 0 a2 1), (AV.v (.int .i64 a3)), (AV.v (.int .i64 a4)), some a5 => some (a0, a1, a2, a3, a4, a5)
    | _, _, _, _, _, _, _, _ => none
  st := fun x => mkS 62 [(1, (AV.list 1 x.1 none)), (16, (AV.list 1 x.2.1 none)), (5, (AV.vs 15 0 x.2.2.1 1)), (17, (AV.v (.int .i64 x.2.2.2.1))), (18, (AV.v (.int .i64 x.2.2.2.2.1)))] [(15, x.2.2.2.2.2)] (F47_an 5).1.toks 0
  out := fun y => (.exit 0, mkS 62 [(5, (AV.vs 15 0 y.1 1))] [(15, y.2)] (F47_an 5).2.toks 0)
  sp := fun y α k => k (.exit 0, mkS 62 [(5, (AV.vs 15 0 y.1 1))] [(15, y.2)] (F47_an 5).2.toks 0)
  spe := fun y α k => rfl
  b := fun x α kn ke => (match (decide (x.2.2.2.2.1 < x.2.2.2.1)) with | true => (if 0 ≤ x.2.2.2.2.1 then (match x.2.1[x.2.2.2.2.1.toNat]? with | some c14 => (match c14[0]? with | some x15 => (match x15 with | .v (.int q17 n16) => (if q17 = .i64 then (match F47_d15 N (x.1, x.2.1, x.2.2.1, x.2.2.2.2.1, n16, 0, x.2.2.2.1, x.2.2.2.2.1, (i64 ((x.1.length : Int) + 1)), 0, (x.2.2.2.2.2.map dat0)) with | some y18 => (kn (y18.1, y18.2.1, y18.2.2.1, y18.2.2.2.1, (i64 (y18.2.2.2.2.1 + 1)), (y18.2.2.2.2.2.map dat0))) | none => none) else none) | _ => none) | none => none) | none => none) else none) | false => (ke (x.2.2.1, (x.2.2.2.2.2.map dat0))))
noncomputable abbrev F47_d5 (N : Nat) (x : (List (List AV)) × (List (List AV)) × Nat × Int × Int × (List AV)) : Option ((Nat × (List AV))) := (F47_l5 N).L N x
noncomputable def F47_s (N : Nat) : FSpec where
  X := (List (List AV)) × (List (List AV))
  Y := (List (List AV))
  ash := [[some 1], [some 1]]
  bsh := []
  S := ⟨[[some 1]], [], [], [], []⟩
  bm := false
  pat := fun a b => match a, b with
    | [(AV.list 1 a0 none), (AV.list 1 a1 none)], [] => some (a0, a1)
    | _, _ => none
  args := fun x => [(AV.list 1 x.1 none), (AV.list 1 x.2 none)]
  bs := fun x => []
  ret := fun y => ⟨(AV.list 1 y none), [], none, [], [], []⟩
  t := fun x α k => (if 0 ≤ (i64 ((x.1.length : Int) + (x.2.length : Int))) ∧ (i64 ((x.1.length : Int) + (x.2.length : Int))) ≤ (i64 ((x.1.length : Int) + (x.2.length : Int))) ∧ (i64 ((x.1.length : Int) + (x.2.length : Int))).toNat * 8 ≤ maxBytes then (match F47_d5 N (x.2, x.1, ((i64 ((x.1.length : Int) + (x.2.length : Int))).toNat), (x.1.length : Int), 0, ((List.replicate (i64 ((x.1.length : Int) + (x.2.length : Int))).toNat (AV.v (.int .i64 0))).map dat0)) with | some y19 => (if y19.1 * 1 ≤ y19.2.length then (match F60_d N (chunks (y19.2.take (y19.1 * 1)) 1 y19.1) with | some y20 => (k y20) | none => none) else none) | none => none) else none)
noncomputable abbrev F47_d (N : Nat) (x : (List (List AV)) × (List (List AV))) : Option ((List (List AV))) := (F47_s N).d x
theorem F47_par15 (N : Nat) : Par (F47_l15 N).b := by
  intro x α β kn ke kn' ke' r r' h h1 h2
  revert h
  dsimp only [F47_l15]
  (repeat' (first | (with_reducible refine par_ite ?_ ?_) | (with_reducible refine par_both ?_ ?_) | split)) <;> intro h <;> first | exact h1 _ h | exact h2 _ h | (cases h; done)
theorem F47_body15 (N : Nat) (x : (F47_l15 N).X) (α : Type) (kn : AS → Option α) (ke : Out → Option α) : around (tabOf Tryz.prog) (F47_g N) F47_an (lam N [(5, F47_l5 N), (15, F47_l15 N)]) 15 (bodyOf (nthLoop 15 (Tryz.f47.body.getD .skip))) ((F47_l15 N).st x) kn ke = (F47_l15 N).b x α (fun x' => kn ((F47_l15 N).st x')) (fun y => (F47_l15 N).sp y α ke) := by kernel_rfl
theorem F47_pat15 (N : Nat) (s : AS) (x : (F47_l15 N).X) (hc : s = canon (F47_an 15).1 s) (h : (F47_l15 N).p s = some x) : s = (F47_l15 N).st x := by
  dsimp only [F47_l15] at h
  split at h
  · cases h
    exact canon_mk hc ‹_› ‹_› rfl rfl rfl ⟨‹_›, ‹_›, ‹_›, ‹_›, ‹_›, ‹_›, ‹_›, ‹_›, ‹_›, ‹_›, trivial⟩ ⟨‹_›, trivial⟩
  · cases h
theorem F47_loop15 (N : Nat) : ∀ s o, s = canon (F47_an 15).1 s → (lam N [(5, F47_l5 N), (15, F47_l15 N)]).v 15 s = some o → LoopSem Tryz.prog (nthLoop 15 (Tryz.f47.body.getD .skip)) s o :=
  loop_ok (tabOf_ok Tryz.prog) (gam_ok _) mixed F47_an N [(5, F47_l5 N), (15, F47_l15 N)] 15 (bodyOf (nthLoop 15 (Tryz.f47.body.getD .skip))) (nthLoop 15 (Tryz.f47.body.getD .skip)) (by kernel_rfl) (by
    have e : actOf F47_an (bodyOf (nthLoop 15 (Tryz.f47.body.getD .skip))) (15 + 1) = [] := by kernel_rfl
    rw [e]
    intro p hp
    cases hp) (F47_l15 N) rfl (fun s x hc h => F47_pat15 N s x hc h) (fun x => rfl) (fun x α kn ke => (F47_body15 N x α kn ke).trans (congrArg ((F47_l15 N).b x α _) (funext fun y => (F47_l15 N).spe y α ke))) (F47_par15 N)
theorem F47_par5 (N : Nat) : Par (F47_l5 N).b := by
  intro x α β kn ke kn' ke' r r' h h1 h2
  revert h
  dsimp only [F47_l5]
  (repeat' (first | (with_reducible refine par_ite ?_ ?_) | (with_reducible refine par_both ?_ ?_) | split)) <;> intro h <;> first | exact h1 _ h | exact h2 _ h | (cases h; done)
theorem F47_body5 (N : Nat) (x : (F47_l5 N).X) (α : Type) (kn : AS → Option α) (ke : Out → Option α) : around (tabOf Tryz.prog) (F47_g N) F47_an (lam N [(5, F47_l5 N), (15, F47_l15 N)]) 5 (bodyOf (nthLoop 5 (Tryz.f47.body.getD .skip))) ((F47_l5 N).st x) kn ke = (F47_l5 N).b x α (fun x' => kn ((F47_l5 N).st x')) (fun y => (F47_l5 N).sp y α ke) := by kernel_rfl
theorem F47_pat5 (N : Nat) (s : AS) (x : (F47_l5 N).X) (hc : s = canon (F47_an 5).1 s) (h : (F47_l5 N).p s = some x) : s = (F47_l5 N).st x := by
  dsimp only [F47_l5] at h
  split at h
  · cases h
    exact canon_mk hc ‹_› ‹_› rfl rfl rfl ⟨‹_›, ‹_›, ‹_›, ‹_›, ‹_›, trivial⟩ ⟨‹_›, trivial⟩
  · cases h
theorem F47_loop5 (N : Nat) : ∀ s o, s = canon (F47_an 5).1 s → (lam N [(5, F47_l5 N), (15, F47_l15 N)]).v 5 s = some o → LoopSem Tryz.prog (nthLoop 5 (Tryz.f47.body.getD .skip)) s o :=
  loop_ok (tabOf_ok Tryz.prog) (gam_ok _) mixed F47_an N [(5, F47_l5 N), (15, F47_l15 N)] 5 (bodyOf (nthLoop 5 (Tryz.f47.body.getD .skip))) (nthLoop 5 (Tryz.f47.body.getD .skip)) (by kernel_rfl) (by
    have e : actOf F47_an (bodyOf (nthLoop 5 (Tryz.f47.body.getD .skip))) (5 + 1) = [(15, nthLoop 15 (Tryz.f47.body.getD .skip))] := by kernel_rfl
    rw [e]
    intro p hp
    rcases List.mem_cons.1 hp with rfl | hp
    · exact F47_loop15 N
    cases hp) (F47_l5 N) rfl (fun s x hc h => F47_pat5 N s x hc h) (fun x => rfl) (fun x α kn ke => (F47_body5 N x α kn ke).trans (congrArg ((F47_l5 N).b x α _) (funext fun y => (F47_l5 N).spe y α ke))) (F47_par5 N)
theorem F47_parF (N : Nat) : ParF (F47_s N).t := by
  intro x α β k k' r r' h h1
  revert h
  dsimp only [F47_s]
  (repeat' (first | (with_reducible refine par_ite ?_ ?_) | (with_reducible refine par_both ?_ ?_) | split)) <;> intro h <;> first | exact h1 _ h | (cases h; done)
theorem F47_text (N : Nat) (x : (F47_s N).X) : acall (tabOf Tryz.prog) (F47_g N) F47_an (lam N [(5, F47_l5 N), (15, F47_l15 N)]) Tryz.f47 (F47_s N).S ((F47_s N).args x) ((F47_s N).bs x) = (F47_s N).t x Ret (fun y => some ((F47_s N).ret y)) := by kernel_rfl
theorem F47_pat (N : Nat) (a : List AV) (b : List (List AV)) (x : (F47_s N).X) (h : (F47_s N).pat a b = some x) : a = (F47_s N).args x ∧ b = (F47_s N).bs x := by
  dsimp only [F47_s] at h
  split at h
  · cases h; exact ⟨rfl, rfl⟩
  · cases h
noncomputable def F47_e (N : Nat) : Ent Tryz.prog := entOf (tabOf_ok Tryz.prog) (gam_ok _) mixed 47 Tryz.f47 Tryz.func47 rfl F47_an (lam N [(5, F47_l5 N), (15, F47_l15 N)]) (by
    have e : actOf F47_an (Tryz.f47.body.getD .skip) 0 = [(5, nthLoop 5 (Tryz.f47.body.getD .skip)), (15, nthLoop 15 (Tryz.f47.body.getD .skip))] := by kernel_rfl
    rw [e]
    intro p hp
    rcases List.mem_cons.1 hp with rfl | hp
    · exact F47_loop5 N
    rcases List.mem_cons.1 hp with rfl | hp
    · exact F47_loop15 N
    cases hp) (F47_s N) (fun _ => ⟨rfl, rfl⟩) (F47_text N) (F47_pat N) (F47_parF N)
/-! ### seismonet/nat.Mul (function 13) -/
def F13_an : Nat → Keep × Keep := anL []
noncomputable def F13_g (N : Nat) : GamK := gam (P := Tryz.prog) [F40_e N, F47_e N, F42_e N]
noncomputable def F13_s (N : Nat) : FSpec where
  X := (List (List AV)) × (List (List AV))
  Y := (List (List AV)) × Int
  ash := [[some 1], [some 1]]
  bsh := []
  S := ⟨[[some 1], [none]], [], [], [], []⟩
  bm := false
  pat := fun a b => match a, b with
    | [(AV.list 1 a0 none), (AV.list 1 a1 none)], [] => some (a0, a1)
    | _, _ => none
  args := fun x => [(AV.list 1 x.1 none), (AV.list 1 x.2 none)]
  bs := fun x => []
  ret := fun y => ⟨(AV.tup [(AV.list 1 y.1 none), (AV.v (.int .i64 y.2))]), [], none, [], [], []⟩
  t := fun x α k => (match F40_d N (x.1, x.2) with | some y1 => (match (!y1) with | true => (k (([] : List (List AV)), 1)) | false => (match F47_d N (x.1, x.2) with | some y2 => (match F42_d N y2 with | some y3 => (k (y3.1, y3.2)) | none => none) | none => none)) | none => none)
noncomputable abbrev F13_d (N : Nat) (x : (List (List AV)) × (List (List AV))) : Option ((List (List AV)) × Int) := (F13_s N).d x
theorem F13_parF (N : Nat) : ParF (F13_s N).t := by
  intro x α β k k' r r' h h1
  revert h
  dsimp only [F13_s]
  (repeat' (first | (with_reducible refine par_ite ?_ ?_) | (with_reducible refine par_both ?_ ?_) | split)) <;> intro h <;> first | exact h1 _ h | (cases h; done)
theorem F13_text (N : Nat) (x : (F13_s N).X) : acall (tabOf Tryz.prog) (F13_g N) F13_an (lam N []) Tryz.f13 (F13_s N).S ((F13_s N).args x) ((F13_s N).bs x) = (F13_s N).t x Ret (fun y => some ((F13_s N).ret y)) := by kernel_rfl
theorem F13_pat (N : Nat) (a : List AV) (b : List (List AV)) (x : (F13_s N).X) (h : (F13_s N).pat a b = some x) : a = (F13_s N).args x ∧ b = (F13_s N).bs x := by
  dsimp only [F13_s] at h
  split at h
  · cases h; exact ⟨rfl, rfl⟩
  · cases h
noncomputable def F13_e (N : Nat) : Ent Tryz.prog := entOf (tabOf_ok Tryz.prog) (gam_ok _) mixed 13 Tryz.f13 Tryz.func13 rfl F13_an (lam N []) (by
    have e : actOf F13_an (Tryz.f13.body.getD .skip) 0 = [] := by kernel_rfl
    rw [e]
    intro p hp
    cases hp) (F13_s N) (fun _ => ⟨rfl, rfl⟩) (F13_text N) (F13_pat N) (F13_parF N)
/-! ### seismonet/nat.DivSmall (function 19) -/
def F19_an : Nat → Keep × Keep := anL []
noncomputable def F19_g (N : Nat) : GamK := gam (P := Tryz.prog) [F25_e N, F49_e N]
noncomputable def F19_s (N : Nat) : FSpec where
  X := (List (List AV)) × Int
  Y := (List (List AV)) × Int × Int
  ash := [[some 1], [none]]
  bsh := []
  S := ⟨[[some 1], [none], [none]], [], [], [], []⟩
  bm := false
  pat := fun a b => match a, b with
    | [(AV.list 1 a0 none), (AV.v (.int .i64 a1))], [] => some (a0, a1)
    | _, _ => none
  args := fun x => [(AV.list 1 x.1 none), (AV.v (.int .i64 x.2))]
  bs := fun x => []
  ret := fun y => ⟨(AV.tup [(AV.list 1 y.1 none), (AV.v (.int .i64 y.2.1)), (AV.v (.int .i64 y.2.2))]), [], none, [], [], []⟩
  t := fun x α k => (match F25_d N x.1 with | some y1 => (match (!y1) with | true => (k (([] : List (List AV)), 0, 1)) | false => (match (decide (x.2 < 1)) with | true => (k (([] : List (List AV)), 0, 2)) | false => (match (decide (x.2 ≥ 1073741824)) with | true => (k (([] : List (List AV)), 0, 2)) | false => (match F49_d N (x.1, x.2) with | some y2 => (k (y2.1, y2.2, 0)) | none => none)))) | none => none)
noncomputable abbrev F19_d (N : Nat) (x : (List (List AV)) × Int) : Option ((List (List AV)) × Int × Int) := (F19_s N).d x
theorem F19_parF (N : Nat) : ParF (F19_s N).t := by
  intro x α β k k' r r' h h1
  revert h
  dsimp only [F19_s]
  (repeat' (first | (with_reducible refine par_ite ?_ ?_) | (with_reducible refine par_both ?_ ?_) | split)) <;> intro h <;> first | exact h1 _ h | (cases h; done)
theorem F19_text (N : Nat) (x : (F19_s N).X) : acall (tabOf Tryz.prog) (F19_g N) F19_an (lam N []) Tryz.f19 (F19_s N).S ((F19_s N).args x) ((F19_s N).bs x) = (F19_s N).t x Ret (fun y => some ((F19_s N).ret y)) := by kernel_rfl
theorem F19_pat (N : Nat) (a : List AV) (b : List (List AV)) (x : (F19_s N).X) (h : (F19_s N).pat a b = some x) : a = (F19_s N).args x ∧ b = (F19_s N).bs x := by
  dsimp only [F19_s] at h
  split at h
  · cases h; exact ⟨rfl, rfl⟩
  · cases h
noncomputable def F19_e (N : Nat) : Ent Tryz.prog := entOf (tabOf_ok Tryz.prog) (gam_ok _) mixed 19 Tryz.f19 Tryz.func19 rfl F19_an (lam N []) (by
    have e : actOf F19_an (Tryz.f19.body.getD .skip) 0 = [] := by kernel_rfl
    rw [e]
    intro p hp
    cases hp) (F19_s N) (fun _ => ⟨rfl, rfl⟩) (F19_text N) (F19_pat N) (F19_parF N)
/-! ### seismonet/nat.ValidFraction (function 36) -/
def F36_an : Nat → Keep × Keep := anL []
noncomputable def F36_g (N : Nat) : GamK := gam (P := Tryz.prog) [F25_e N]
noncomputable def F36_s (N : Nat) : FSpec where
  X := (List (List AV)) × (List (List AV))
  Y := Bool
  ash := [[some 1, some 1]]
  bsh := []
  S := ⟨[[none]], [], [], [], []⟩
  bm := false
  pat := fun a b => match a, b with
    | [(AV.agg [(AV.list 1 a0 none), (AV.list 1 a1 none)])], [] => some (a0, a1)
    | _, _ => none
  args := fun x => [(AV.agg [(AV.list 1 x.1 none), (AV.list 1 x.2 none)])]
  bs := fun x => []
  ret := fun y => ⟨(AV.v (.bool y)), [], none, [], [], []⟩
  t := fun x α k => (match F25_d N x.1 with | some y1 => (match y1 with | true => (match F25_d N x.2 with | some y2 => (match y2 with | true => (k (decide ((x.2.length : Int) > 0))) | false => (k false)) | none => none) | false => (k false)) | none => none)
noncomputable abbrev F36_d (N : Nat) (x : (List (List AV)) × (List (List AV))) : Option (Bool) := (F36_s N).d x
theorem F36_parF (N : Nat) : ParF (F36_s N).t := by
  intro x α β k k' r r' h h1
  revert h
  dsimp only [F36_s]
  (repeat' (first | (with_reducible refine par_ite ?_ ?_) | (with_reducible refine par_both ?_ ?_) | split)) <;> intro h <;> first | exact h1 _ h | (cases h; done)
theorem F36_text (N : Nat) (x : (F36_s N).X) : acall (tabOf Tryz.prog) (F36_g N) F36_an (lam N []) Tryz.f36 (F36_s N).S ((F36_s N).args x) ((F36_s N).bs x) = (F36_s N).t x Ret (fun y => some ((F36_s N).ret y)) := by kernel_rfl
theorem F36_pat (N : Nat) (a : List AV) (b : List (List AV)) (x : (F36_s N).X) (h : (F36_s N).pat a b = some x) : a = (F36_s N).args x ∧ b = (F36_s N).bs x := by
  dsimp only [F36_s] at h
  split at h
  · cases h; exact ⟨rfl, rfl⟩
  · cases h
noncomputable def F36_e (N : Nat) : Ent Tryz.prog := entOf (tabOf_ok Tryz.prog) (gam_ok _) mixed 36 Tryz.f36 Tryz.func36 rfl F36_an (lam N []) (by
    have e : actOf F36_an (Tryz.f36.body.getD .skip) 0 = [] := by kernel_rfl
    rw [e]
    intro p hp
    cases hp) (F36_s N) (fun _ => ⟨rfl, rfl⟩) (F36_text N) (F36_pat N) (F36_parF N)
/-! ### seismonet/nat.Times (function 33) -/
def F33_an : Nat → Keep × Keep := anL []
noncomputable def F33_g (N : Nat) : GamK := gam (P := Tryz.prog) [F36_e N, F47_e N, F42_e N]
noncomputable def F33_s (N : Nat) : FSpec where
  X := (List (List AV)) × (List (List AV)) × (List (List AV)) × (List (List AV))
  Y := (List (List AV)) × (List (List AV)) × Int
  ash := [[some 1, some 1], [some 1, some 1]]
  bsh := []
  S := ⟨[[some 1, some 1], [none]], [], [], [], []⟩
  bm := false
  pat := fun a b => match a, b with
    | [(AV.agg [(AV.list 1 a0 none), (AV.list 1 a1 none)]), (AV.agg [(AV.list 1 a2 none), (AV.list 1 a3 none)])], [] => some (a0, a1, a2, a3)
    | _, _ => none
  args := fun x => [(AV.agg [(AV.list 1 x.1 none), (AV.list 1 x.2.1 none)]), (AV.agg [(AV.list 1 x.2.2.1 none), (AV.list 1 x.2.2.2 none)])]
  bs := fun x => []
  ret := fun y => ⟨(AV.tup [(AV.agg [(AV.list 1 y.1 none), (AV.list 1 y.2.1 none)]), (AV.v (.int .i64 y.2.2))]), [], none, [], [], []⟩
  t := fun x α k => (match F36_d N (x.1, x.2.1) with | some y1 => (match (!y1) with | true => (k (([] : List (List AV)), ([] : List (List AV)), 1)) | false => (match F36_d N (x.2.2.1, x.2.2.2) with | some y2 => (match (!y2) with | true => (k (([] : List (List AV)), ([] : List (List AV)), 1)) | false => (match F47_d N (x.1, x.2.2.1) with | some y3 => (match F42_d N y3 with | some y4 => (match F47_d N (x.2.1, x.2.2.2) with | some y5 => (match F42_d N y5 with | some y6 => (match (y4.2 != 0) with | true => (k (([] : List (List AV)), ([] : List (List AV)), 8)) | false => (match (y6.2 != 0) with | true => (k (([] : List (List AV)), ([] : List (List AV)), 8)) | false => (k (y4.1, y6.1, 0)))) | none => none) | none => none) | none => none) | none => none)) | none => none)) | none => none)
noncomputable abbrev F33_d (N : Nat) (x : (List (List AV)) × (List (List AV)) × (List (List AV)) × (List (List AV))) : Option ((List (List AV)) × (List (List AV)) × Int) := (F33_s N).d x
theorem F33_parF (N : Nat) : ParF (F33_s N).t := by
  intro x α β k k' r r' h h1
  revert h
  dsimp only [F33_s]
  (repeat' (first | (with_reducible refine par_ite ?_ ?_) | (with_reducible refine par_both ?_ ?_) | split)) <;> intro h <;> first | exact h1 _ h | (cases h; done)
theorem F33_text (N : Nat) (x : (F33_s N).X) : acall (tabOf Tryz.prog) (F33_g N) F33_an (lam N []) Tryz.f33 (F33_s N).S ((F33_s N).args x) ((F33_s N).bs x) = (F33_s N).t x Ret (fun y => some ((F33_s N).ret y)) := by kernel_rfl
theorem F33_pat (N : Nat) (a : List AV) (b : List (List AV)) (x : (F33_s N).X) (h : (F33_s N).pat a b = some x) : a = (F33_s N).args x ∧ b = (F33_s N).bs x := by
  dsimp only [F33_s] at h
  split at h
  · cases h; exact ⟨rfl, rfl⟩
  · cases h
noncomputable def F33_e (N : Nat) : Ent Tryz.prog := entOf (tabOf_ok Tryz.prog) (gam_ok _) mixed 33 Tryz.f33 Tryz.func33 rfl F33_an (lam N []) (by
    have e : actOf F33_an (Tryz.f33.body.getD .skip) 0 = [] := by kernel_rfl
    rw [e]
    intro p hp
    cases hp) (F33_s N) (fun _ => ⟨rfl, rfl⟩) (F33_text N) (F33_pat N) (F33_parF N)
/-! ### seismonet/nat.cross (function 59) -/
def F59_an : Nat → Keep × Keep := anL []
noncomputable def F59_g (N : Nat) : GamK := gam (P := Tryz.prog) [F47_e N, F44_e N]
noncomputable def F59_s (N : Nat) : FSpec where
  X := (List (List AV)) × (List (List AV)) × (List (List AV)) × (List (List AV))
  Y := Int
  ash := [[some 1, some 1], [some 1, some 1]]
  bsh := []
  S := ⟨[[none]], [], [], [], []⟩
  bm := false
  pat := fun a b => match a, b with
    | [(AV.agg [(AV.list 1 a0 none), (AV.list 1 a1 none)]), (AV.agg [(AV.list 1 a2 none), (AV.list 1 a3 none)])], [] => some (a0, a1, a2, a3)
    | _, _ => none
  args := fun x => [(AV.agg [(AV.list 1 x.1 none), (AV.list 1 x.2.1 none)]), (AV.agg [(AV.list 1 x.2.2.1 none), (AV.list 1 x.2.2.2 none)])]
  bs := fun x => []
  ret := fun y => ⟨(AV.v (.int .i64 y)), [], none, [], [], []⟩
  t := fun x α k => (match F47_d N (x.1, x.2.2.2) with | some y1 => (match F47_d N (x.2.2.1, x.2.1) with | some y2 => (match F44_d N (y1, y2) with | some y3 => (k y3) | none => none) | none => none) | none => none)
noncomputable abbrev F59_d (N : Nat) (x : (List (List AV)) × (List (List AV)) × (List (List AV)) × (List (List AV))) : Option (Int) := (F59_s N).d x
theorem F59_parF (N : Nat) : ParF (F59_s N).t := by
  intro x α β k k' r r' h h1
  revert h
  dsimp only [F59_s]
  (repeat' (first | (with_reducible refine par_ite ?_ ?_) | (with_reducible refine par_both ?_ ?_) | split)) <;> intro h <;> first | exact h1 _ h | (cases h; done)
theorem F59_text (N : Nat) (x : (F59_s N).X) : acall (tabOf Tryz.prog) (F59_g N) F59_an (lam N []) Tryz.f59 (F59_s N).S ((F59_s N).args x) ((F59_s N).bs x) = (F59_s N).t x Ret (fun y => some ((F59_s N).ret y)) := by kernel_rfl
theorem F59_pat (N : Nat) (a : List AV) (b : List (List AV)) (x : (F59_s N).X) (h : (F59_s N).pat a b = some x) : a = (F59_s N).args x ∧ b = (F59_s N).bs x := by
  dsimp only [F59_s] at h
  split at h
  · cases h; exact ⟨rfl, rfl⟩
  · cases h
noncomputable def F59_e (N : Nat) : Ent Tryz.prog := entOf (tabOf_ok Tryz.prog) (gam_ok _) mixed 59 Tryz.f59 Tryz.func59 rfl F59_an (lam N []) (by
    have e : actOf F59_an (Tryz.f59.body.getD .skip) 0 = [] := by kernel_rfl
    rw [e]
    intro p hp
    cases hp) (F59_s N) (fun _ => ⟨rfl, rfl⟩) (F59_text N) (F59_pat N) (F59_parF N)
/-! ### seismonet/nat.Equal (function 31) -/
def F31_an : Nat → Keep × Keep := anL []
noncomputable def F31_g (N : Nat) : GamK := gam (P := Tryz.prog) [F36_e N, F59_e N]
noncomputable def F31_s (N : Nat) : FSpec where
  X := (List (List AV)) × (List (List AV)) × (List (List AV)) × (List (List AV))
  Y := Bool × Int
  ash := [[some 1, some 1], [some 1, some 1]]
  bsh := []
  S := ⟨[[none], [none]], [], [], [], []⟩
  bm := false
  pat := fun a b => match a, b with
    | [(AV.agg [(AV.list 1 a0 none), (AV.list 1 a1 none)]), (AV.agg [(AV.list 1 a2 none), (AV.list 1 a3 none)])], [] => some (a0, a1, a2, a3)
    | _, _ => none
  args := fun x => [(AV.agg [(AV.list 1 x.1 none), (AV.list 1 x.2.1 none)]), (AV.agg [(AV.list 1 x.2.2.1 none), (AV.list 1 x.2.2.2 none)])]
  bs := fun x => []
  ret := fun y => ⟨(AV.tup [(AV.v (.bool y.1)), (AV.v (.int .i64 y.2))]), [], none, [], [], []⟩
  t := fun x α k => (match F36_d N (x.1, x.2.1) with | some y1 => (match (!y1) with | true => (k (false, 1)) | false => (match F36_d N (x.2.2.1, x.2.2.2) with | some y2 => (match (!y2) with | true => (k (false, 1)) | false => (match F59_d N (x.1, x.2.1, x.2.2.1, x.2.2.2) with | some y3 => (k ((y3 == 0), 0)) | none => none)) | none => none)) | none => none)
noncomputable abbrev F31_d (N : Nat) (x : (List (List AV)) × (List (List AV)) × (List (List AV)) × (List (List AV))) : Option (Bool × Int) := (F31_s N).d x
theorem F31_parF (N : Nat) : ParF (F31_s N).t := by
  intro x α β k k' r r' h h1
  revert h
  dsimp only [F31_s]
  (repeat' (first | (with_reducible refine par_ite ?_ ?_) | (with_reducible refine par_both ?_ ?_) | split)) <;> intro h <;> first | exact h1 _ h | (cases h; done)
theorem F31_text (N : Nat) (x : (F31_s N).X) : acall (tabOf Tryz.prog) (F31_g N) F31_an (lam N []) Tryz.f31 (F31_s N).S ((F31_s N).args x) ((F31_s N).bs x) = (F31_s N).t x Ret (fun y => some ((F31_s N).ret y)) := by kernel_rfl
theorem F31_pat (N : Nat) (a : List AV) (b : List (List AV)) (x : (F31_s N).X) (h : (F31_s N).pat a b = some x) : a = (F31_s N).args x ∧ b = (F31_s N).bs x := by
  dsimp only [F31_s] at h
  split at h
  · cases h; exact ⟨rfl, rfl⟩
  · cases h
noncomputable def F31_e (N : Nat) : Ent Tryz.prog := entOf (tabOf_ok Tryz.prog) (gam_ok _) mixed 31 Tryz.f31 Tryz.func31 rfl F31_an (lam N []) (by
    have e : actOf F31_an (Tryz.f31.body.getD .skip) 0 = [] := by kernel_rfl
    rw [e]
    intro p hp
    cases hp) (F31_s N) (fun _ => ⟨rfl, rfl⟩) (F31_text N) (F31_pat N) (F31_parF N)
/-! ### seismonet/nat.Less (function 29) -/
def F29_an : Nat → Keep × Keep := anL []
noncomputable def F29_g (N : Nat) : GamK := gam (P := Tryz.prog) [F36_e N, F59_e N]
noncomputable def F29_s (N : Nat) : FSpec where
  X := (List (List AV)) × (List (List AV)) × (List (List AV)) × (List (List AV))
  Y := Bool × Int
  ash := [[some 1, some 1], [some 1, some 1]]
  bsh := []
  S := ⟨[[none], [none]], [], [], [], []⟩
  bm := false
  pat := fun a b => match a, b with
    | [(AV.agg [(AV.list 1 a0 none), (AV.list 1 a1 none)]), (AV.agg [(AV.list 1 a2 none), (AV.list 1 a3 none)])], [] => some (a0, a1, a2, a3)
    | _, _ => none
  args := fun x => [(AV.agg [(AV.list 1 x.1 none), (AV.list 1 x.2.1 none)]), (AV.agg [(AV.list 1 x.2.2.1 none), (AV.list 1 x.2.2.2 none)])]
  bs := fun x => []
  ret := fun y => ⟨(AV.tup [(AV.v (.bool y.1)), (AV.v (.int .i64 y.2))]), [], none, [], [], []⟩
  t := fun x α k => (match F36_d N (x.1, x.2.1) with | some y1 => (match (!y1) with | true => (k (false, 1)) | false => (match F36_d N (x.2.2.1, x.2.2.2) with | some y2 => (match (!y2) with | true => (k (false, 1)) | false => (match F59_d N (x.1, x.2.1, x.2.2.1, x.2.2.2) with | some y3 => (k ((decide (y3 < 0)), 0)) | none => none)) | none => none)) | none => none)
noncomputable abbrev F29_d (N : Nat) (x : (List (List AV)) × (List (List AV)) × (List (List AV)) × (List (List AV))) : Option (Bool × Int) := (F29_s N).d x
theorem F29_parF (N : Nat) : ParF (F29_s N).t := by
  intro x α β k k' r r' h h1
  revert h
  dsimp only [F29_s]
  (repeat' (first | (with_reducible refine par_ite ?_ ?_) | (with_reducible refine par_both ?_ ?_) | split)) <;> intro h <;> first | exact h1 _ h | (cases h; done)
theorem F29_text (N : Nat) (x : (F29_s N).X) : acall (tabOf Tryz.prog) (F29_g N) F29_an (lam N []) Tryz.f29 (F29_s N).S ((F29_s N).args x) ((F29_s N).bs x) = (F29_s N).t x Ret (fun y => some ((F29_s N).ret y)) := by kernel_rfl
theorem F29_pat (N : Nat) (a : List AV) (b : List (List AV)) (x : (F29_s N).X) (h : (F29_s N).pat a b = some x) : a = (F29_s N).args x ∧ b = (F29_s N).bs x := by
  dsimp only [F29_s] at h
  split at h
  · cases h; exact ⟨rfl, rfl⟩
  · cases h
noncomputable def F29_e (N : Nat) : Ent Tryz.prog := entOf (tabOf_ok Tryz.prog) (gam_ok _) mixed 29 Tryz.f29 Tryz.func29 rfl F29_an (lam N []) (by
    have e : actOf F29_an (Tryz.f29.body.getD .skip) 0 = [] := by kernel_rfl
    rw [e]
    intro p hp
    cases hp) (F29_s N) (fun _ => ⟨rfl, rfl⟩) (F29_text N) (F29_pat N) (F29_parF N)
end Go.Proofs.YtlpebecbipjoaaaGreatDoor
