/- Functions without memory. (written by sx.py) -/
import Derived.Test.YtlpebecbipjoaaaDoorNaGiv
namespace Go.Proofs.YtlpebecbipjoaaaDoor
open Go.RowKit
set_option linter.unusedVariables false
set_option linter.unusedSimpArgs false
set_option linter.unnecessarySimpa false
set_option maxRecDepth 4000
/-! ### seismonet/nat.trim (function 46) -/
def F46_an : Nat → Keep × Keep := anL [(3, ⟨[], [], [], [(0, 1)], [], [], [], [], false⟩, ⟨[], [], [], [(0, 1)], [], [], [], [], false⟩)]
noncomputable def F46_g (N : Nat) : GamK := gam (P := Tryd.prog) []
noncomputable def F46_l3 (N : Nat) : LSpec where
  X := (List (List AV))
  Y := ((List (List AV)))
  p := fun s => match s.env.length, s.nin, s.at 0 with
    | 21, 0, (AV.list 1 a0 none) => some a0
    | _, _, _ => none
  st := fun x => mkS 21 [(0, (AV.list 1 x none))] [] (F46_an 3).1.toks 0
  out := fun y => (.exit 0, mkS 21 [(0, (AV.list 1 y none))] [] (F46_an 3).2.toks 0)
  sp := fun y α k => k (.exit 0, mkS 21 [(0, (AV.list 1 y none))] [] (F46_an 3).2.toks 0)
  spe := fun y α k => rfl
  b := fun x α kn ke => (match (decide ((x.length : Int) > 0)) with | true => (if 0 ≤ (i64 ((x.length : Int) - 1)) then (match x[(i64 ((x.length : Int) - 1)).toNat]? with | some c1 => (match c1[0]? with | some x2 => (match x2 with | .v (.int q4 n3) => (if q4 = .i64 then (match (n3 == 0) with | true => (if 0 ≤ (i64 ((x.length : Int) - 1)) ∧ (i64 ((x.length : Int) - 1)) ≤ x.length then (kn (x.take (i64 ((x.length : Int) - 1)).toNat)) else none) | false => (ke x)) else none) | _ => none) | none => none) | none => none) else none) | false => (ke x))
noncomputable abbrev F46_d3 (N : Nat) (x : (List (List AV))) : Option (((List (List AV)))) := (F46_l3 N).L N x
noncomputable def F46_s (N : Nat) : FSpec where
  X := (List (List AV))
  Y := (List (List AV))
  ash := [[some 1]]
  bsh := []
  S := ⟨[[some 1]], [], [], [], []⟩
  bm := false
  pat := fun a b => match a, b with
    | [(AV.list 1 a0 none)], [] => some a0
    | _, _ => none
  args := fun x => [(AV.list 1 x none)]
  bs := fun x => []
  ret := fun y => ⟨(AV.list 1 y none), [], none, [], [], []⟩
  t := fun x α k => (match F46_d3 N x with | some y5 => (k y5) | none => none)
noncomputable abbrev F46_d (N : Nat) (x : (List (List AV))) : Option ((List (List AV))) := (F46_s N).d x
theorem F46_par3 (N : Nat) : Par (F46_l3 N).b := by
  intro x α β kn ke kn' ke' r r' h h1 h2
  revert h
  dsimp only [F46_l3]
  (repeat' (first | (with_reducible refine par_ite ?_ ?_) | (with_reducible refine par_both ?_ ?_) | split)) <;> intro h <;> first | exact h1 _ h | exact h2 _ h | (cases h; done)
theorem F46_body3 (N : Nat) (x : (F46_l3 N).X) (α : Type) (kn : AS → Option α) (ke : Out → Option α) : around (tabOf Tryd.prog) (F46_g N) F46_an (lam N [(3, F46_l3 N)]) 3 (bodyOf (nthLoop 3 (Tryd.f46.body.getD .skip))) ((F46_l3 N).st x) kn ke = (F46_l3 N).b x α (fun x' => kn ((F46_l3 N).st x')) (fun y => (F46_l3 N).sp y α ke) := by kernel_rfl
theorem F46_pat3 (N : Nat) (s : AS) (x : (F46_l3 N).X) (hc : s = canon (F46_an 3).1 s) (h : (F46_l3 N).p s = some x) : s = (F46_l3 N).st x := by
  dsimp only [F46_l3] at h
  split at h
  · cases h
    exact canon_mk hc ‹_› ‹_› rfl rfl rfl ⟨‹_›, trivial⟩ trivial
  · cases h
theorem F46_loop3 (N : Nat) : ∀ s o, s = canon (F46_an 3).1 s → (lam N [(3, F46_l3 N)]).v 3 s = some o → LoopSem Tryd.prog (nthLoop 3 (Tryd.f46.body.getD .skip)) s o :=
  loop_ok (tabOf_ok Tryd.prog) (gam_ok _) mixed F46_an N [(3, F46_l3 N)] 3 (bodyOf (nthLoop 3 (Tryd.f46.body.getD .skip))) (nthLoop 3 (Tryd.f46.body.getD .skip)) (by kernel_rfl) (by
    have e : actOf F46_an (bodyOf (nthLoop 3 (Tryd.f46.body.getD .skip))) (3 + 1) = [] := by kernel_rfl
    rw [e]
    intro p hp
    cases hp) (F46_l3 N) rfl (fun s x hc h => F46_pat3 N s x hc h) (fun x => rfl) (fun x α kn ke => (F46_body3 N x α kn ke).trans (congrArg ((F46_l3 N).b x α _) (funext fun y => (F46_l3 N).spe y α ke))) (F46_par3 N)
theorem F46_parF (N : Nat) : ParF (F46_s N).t := by
  intro x α β k k' r r' h h1
  revert h
  dsimp only [F46_s]
  (repeat' (first | (with_reducible refine par_ite ?_ ?_) | (with_reducible refine par_both ?_ ?_) | split)) <;> intro h <;> first | exact h1 _ h | (cases h; done)
theorem F46_text (N : Nat) (x : (F46_s N).X) : acall (tabOf Tryd.prog) (F46_g N) F46_an (lam N [(3, F46_l3 N)]) Tryd.f46 (F46_s N).S ((F46_s N).args x) ((F46_s N).bs x) = (F46_s N).t x Ret (fun y => some ((F46_s N).ret y)) := by kernel_rfl
theorem F46_pat (N : Nat) (a : List AV) (b : List (List AV)) (x : (F46_s N).X) (h : (F46_s N).pat a b = some x) : a = (F46_s N).args x ∧ b = (F46_s N).bs x := by
  dsimp only [F46_s] at h
  split at h
  · cases h; exact ⟨rfl, rfl⟩
  · cases h
noncomputable def F46_e (N : Nat) : Ent Tryd.prog := entOf (tabOf_ok Tryd.prog) (gam_ok _) mixed 46 Tryd.f46 Tryd.func46 rfl F46_an (lam N [(3, F46_l3 N)]) (by
    have e : actOf F46_an (Tryd.f46.body.getD .skip) 0 = [(3, nthLoop 3 (Tryd.f46.body.getD .skip))] := by kernel_rfl
    rw [e]
    intro p hp
    rcases List.mem_cons.1 hp with rfl | hp
    · exact F46_loop3 N
    cases hp) (F46_s N) (fun _ => ⟨rfl, rfl⟩) (F46_text N) (F46_pat N) (F46_parF N)
/-! ### seismonet/nat.limited (function 36) -/
def F36_an : Nat → Keep × Keep := anL []
noncomputable def F36_g (N : Nat) : GamK := gam (P := Tryd.prog) [F46_e N]
noncomputable def F36_s (N : Nat) : FSpec where
  X := (List (List AV))
  Y := (List (List AV)) × Int
  ash := [[some 1]]
  bsh := []
  S := ⟨[[some 1], [none]], [], [], [], []⟩
  bm := false
  pat := fun a b => match a, b with
    | [(AV.list 1 a0 none)], [] => some a0
    | _, _ => none
  args := fun x => [(AV.list 1 x none)]
  bs := fun x => []
  ret := fun y => ⟨(AV.tup [(AV.list 1 y.1 none), (AV.v (.int .i64 y.2))]), [], none, [], [], []⟩
  t := fun x α k => (match F46_d N x with | some y1 => (match (decide ((y1.length : Int) > 64)) with | true => (k (([] : List (List AV)), 8)) | false => (k (y1, 0))) | none => none)
noncomputable abbrev F36_d (N : Nat) (x : (List (List AV))) : Option ((List (List AV)) × Int) := (F36_s N).d x
theorem F36_parF (N : Nat) : ParF (F36_s N).t := by
  intro x α β k k' r r' h h1
  revert h
  dsimp only [F36_s]
  (repeat' (first | (with_reducible refine par_ite ?_ ?_) | (with_reducible refine par_both ?_ ?_) | split)) <;> intro h <;> first | exact h1 _ h | (cases h; done)
theorem F36_text (N : Nat) (x : (F36_s N).X) : acall (tabOf Tryd.prog) (F36_g N) F36_an (lam N []) Tryd.f36 (F36_s N).S ((F36_s N).args x) ((F36_s N).bs x) = (F36_s N).t x Ret (fun y => some ((F36_s N).ret y)) := by kernel_rfl
theorem F36_pat (N : Nat) (a : List AV) (b : List (List AV)) (x : (F36_s N).X) (h : (F36_s N).pat a b = some x) : a = (F36_s N).args x ∧ b = (F36_s N).bs x := by
  dsimp only [F36_s] at h
  split at h
  · cases h; exact ⟨rfl, rfl⟩
  · cases h
noncomputable def F36_e (N : Nat) : Ent Tryd.prog := entOf (tabOf_ok Tryd.prog) (gam_ok _) mixed 36 Tryd.f36 Tryd.func36 rfl F36_an (lam N []) (by
    have e : actOf F36_an (Tryd.f36.body.getD .skip) 0 = [] := by kernel_rfl
    rw [e]
    intro p hp
    cases hp) (F36_s N) (fun _ => ⟨rfl, rfl⟩) (F36_text N) (F36_pat N) (F36_parF N)
/-! ### seismonet/nat.Parse (function 12) -/
def F12_an : Nat → Keep × Keep := anF [(13, ⟨[0, 28, 29], [], [], [], [], [(4, 1)], [], [], false⟩, ⟨[], [], [], [], [], [(4, 1)], [], [], false⟩), (24, ⟨[0, 4, 6, 28, 29, 38, 39], [], [1000004], [], [], [], [], [1000004], false⟩, ⟨[0, 4, 6, 28, 29], [], [1000004], [], [], [], [], [1000004], false⟩)] [(100020, ([4], []))]
noncomputable def F12_g (N : Nat) : GamK := gam (P := Tryd.prog) [F35_e N, F36_e N]
noncomputable def F12_l24 (N : Nat) : LSpec where
  X := ByteArray × Nat × Int × Int × Int × Int × Int × (List AV)
  Y := (ByteArray × Nat × Int × Int × Int × (List AV))
  p := fun s => match s.env.length, s.nin, s.at 0, s.at 4, s.at 6, s.at 28, s.at 29, s.at 38, s.at 39, s.bx 1000004 with
    | 68, 0, (AV.v (.string a0)), (AV.vs 1000004 0 a1 1), (AV.v (.int .i64 a2)), (AV.v (.int .i64 a3)), (AV.v (.int .i64 a4)), (AV.v (.int .i64 a5)), (AV.v (.int .i64 a6)), some a7 => some (a0, a1, a2, a3, a4, a5, a6, a7)
    | _, _, _, _, _, _, _, _, _, _ => none
  st := fun x => mkS 68 [(0, (AV.v (.string x.1))), (4, (AV.vs 1000004 0 x.2.1 1)), (6, (AV.v (.int .i64 x.2.2.1))), (28, (AV.v (.int .i64 x.2.2.2.1))), (29, (AV.v (.int .i64 x.2.2.2.2.1))), (38, (AV.v (.int .i64 x.2.2.2.2.2.1))), (39, (AV.v (.int .i64 x.2.2.2.2.2.2.1)))] [(1000004, x.2.2.2.2.2.2.2)] (F12_an 24).1.toks 0
  out := fun y => (.exit 2, mkS 68 [(0, (AV.v (.string y.1))), (4, (AV.vs 1000004 0 y.2.1 1)), (6, (AV.v (.int .i64 y.2.2.1))), (28, (AV.v (.int .i64 y.2.2.2.1))), (29, (AV.v (.int .i64 y.2.2.2.2.1)))] [(1000004, y.2.2.2.2.2)] (F12_an 24).2.toks 0)
  sp := fun y α k => k (.exit 2, mkS 68 [(0, (AV.v (.string y.1))), (4, (AV.vs 1000004 0 y.2.1 1)), (6, (AV.v (.int .i64 y.2.2.1))), (28, (AV.v (.int .i64 y.2.2.2.1))), (29, (AV.v (.int .i64 y.2.2.2.2.1)))] [(1000004, y.2.2.2.2.2)] (F12_an 24).2.toks 0)
  spe := fun y α k => rfl
  b := fun x α kn ke => (match (decide (x.2.2.2.2.2.2.1 < x.2.2.2.2.2.1)) with | true => (if 0 ≤ x.2.2.2.2.2.2.1 ∧ x.2.2.2.2.2.2.1 < (x.2.1 : Int) then (match x.2.2.2.2.2.2.2[((0 + x.2.2.2.2.2.2.1.toNat) * 1)]? with | some x7 => (match x7 with | .v (.int q9 n8) => (if q9 = .i64 then (if 0 ≤ x.2.2.2.2.2.2.1 ∧ x.2.2.2.2.2.2.1 < (x.2.1 : Int) then (if ((0 + x.2.2.2.2.2.2.1.toNat) * 1) + 1 ≤ x.2.2.2.2.2.2.2.length then (kn (x.1, x.2.1, (shR .i64 (i64 (x.2.2.1 + (i64 (10 * n8)))) (30 : Int)), x.2.2.2.1, x.2.2.2.2.1, x.2.2.2.2.2.1, (i64 (x.2.2.2.2.2.2.1 + 1)), ((x.2.2.2.2.2.2.2.set (((0 + x.2.2.2.2.2.2.1.toNat) * 1)) (AV.v (.int .i64 ((i64 (x.2.2.1 + (i64 (10 * n8)))).tmod 1073741824)))).map dat0))) else none) else none) else none) | _ => none) | none => none) else none) | false => (ke (x.1, x.2.1, x.2.2.1, x.2.2.2.1, x.2.2.2.2.1, (x.2.2.2.2.2.2.2.map dat0))))
noncomputable abbrev F12_d24 (N : Nat) (x : ByteArray × Nat × Int × Int × Int × Int × Int × (List AV)) : Option ((ByteArray × Nat × Int × Int × Int × (List AV))) := (F12_l24 N).L N x
noncomputable def F12_l13 (N : Nat) : LSpec where
  X := Nat × ByteArray × Int × Int × (List AV)
  Y := (Nat × (List AV))
  p := fun s => match s.env.length, s.nin, s.at 4, s.at 0, s.at 28, s.at 29, s.bx 1000004 with
    | 68, 0, (AV.vs 1000004 0 a0 1), (AV.v (.string a1)), (AV.v (.int .i64 a2)), (AV.v (.int .i64 a3)), some a4 => some (a0, a1, a2, a3, a4)
    | _, _, _, _, _, _, _ => none
  st := fun x => mkS 68 [(4, (AV.vs 1000004 0 x.1 1)), (0, (AV.v (.string x.2.1))), (28, (AV.v (.int .i64 x.2.2.1))), (29, (AV.v (.int .i64 x.2.2.2.1)))] [(1000004, x.2.2.2.2)] (F12_an 13).1.toks 0
  out := fun y => (.exit 0, mkS 68 [(4, (AV.vs 1000004 0 y.1 1))] [(1000004, y.2)] (F12_an 13).2.toks 0)
  sp := fun y α k => k (.exit 0, mkS 68 [(4, (AV.vs 1000004 0 y.1 1))] [(1000004, y.2)] (F12_an 13).2.toks 0)
  spe := fun y α k => rfl
  b := fun x α kn ke => (match (decide (x.2.2.2.1 < x.2.2.1)) with | true => (if 0 ≤ x.2.2.2.1 then (match x.2.1[x.2.2.2.1.toNat]? with | some c3 => (match F12_d24 N (x.2.1, x.1, (IntKind.i64.wrap (IntKind.u8.wrap ((c3.toNat : Int) - 48))), x.2.2.1, x.2.2.2.1, ((x.1 : Nat) : Int), 0, (x.2.2.2.2.map dat0)) with | some y10 => (match (decide (y10.2.2.1 > 0)) with | true => (if y10.2.1 * 1 ≤ y10.2.2.2.2.2.length ∧ (y10.2.1 + [[(AV.v (.int .i64 y10.2.2.1))]].length) * 8 ≤ maxBytes then (kn ((y10.2.1 + [[(AV.v (.int .i64 y10.2.2.1))]].length), y10.1, y10.2.2.2.1, (i64 (y10.2.2.2.2.1 + 1)), ((y10.2.2.2.2.2.take (y10.2.1 * 1) ++ [[(AV.v (.int .i64 y10.2.2.1))]].flatten).map dat0))) else none) | false => (kn (y10.2.1, y10.1, y10.2.2.2.1, (i64 (y10.2.2.2.2.1 + 1)), (y10.2.2.2.2.2.map dat0)))) | none => none) | none => none) else none) | false => (ke (x.1, (x.2.2.2.2.map dat0))))
noncomputable abbrev F12_d13 (N : Nat) (x : Nat × ByteArray × Int × Int × (List AV)) : Option ((Nat × (List AV))) := (F12_l13 N).L N x
noncomputable def F12_s (N : Nat) : FSpec where
  X := ByteArray
  Y := (List (List AV)) × Int
  ash := [[none]]
  bsh := []
  S := ⟨[[some 1], [none]], [], [], [], []⟩
  bm := false
  pat := fun a b => match a, b with
    | [(AV.v (.string a0))], [] => some a0
    | _, _ => none
  args := fun x => [(AV.v (.string x))]
  bs := fun x => []
  ret := fun y => ⟨(AV.tup [(AV.list 1 y.1 none), (AV.v (.int .i64 y.2))]), [], none, [], [], []⟩
  t := fun x α k => (match (x.toList == (⟨#[]⟩ : ByteArray).toList) with | true => (k (([] : List (List AV)), 3)) | false => (if 0 ≤ (0 : Int) then (match x[(0 : Int).toNat]? with | some c1 => (match ((c1.toNat : Int) == 48) with | true => (match (!(x.toList == (⟨#[48]⟩ : ByteArray).toList)) with | true => (k (([] : List (List AV)), 3)) | false => (match F35_d N (x, (⟨#[48, 49, 50, 51, 52, 53, 54, 55, 56, 57]⟩ : ByteArray)) with | some y2 => (match (!(y2.toList == (⟨#[]⟩ : ByteArray).toList)) with | true => (k (([] : List (List AV)), 3)) | false => (match (decide ((x.size : Int) > 630)) with | true => (k (([] : List (List AV)), 8)) | false => (match F12_d13 N (0, x, (x.size : Int), 0, ([] : List AV)) with | some y11 => (if y11.1 * 1 ≤ y11.2.length then (match F36_d N (chunks (y11.2.take (y11.1 * 1)) 1 y11.1) with | some y12 => (k (y12.1, y12.2)) | none => none) else none) | none => none))) | none => none)) | false => (match F35_d N (x, (⟨#[48, 49, 50, 51, 52, 53, 54, 55, 56, 57]⟩ : ByteArray)) with | some y13 => (match (!(y13.toList == (⟨#[]⟩ : ByteArray).toList)) with | true => (k (([] : List (List AV)), 3)) | false => (match (decide ((x.size : Int) > 630)) with | true => (k (([] : List (List AV)), 8)) | false => (match F12_d13 N (0, x, (x.size : Int), 0, ([] : List AV)) with | some y14 => (if y14.1 * 1 ≤ y14.2.length then (match F36_d N (chunks (y14.2.take (y14.1 * 1)) 1 y14.1) with | some y15 => (k (y15.1, y15.2)) | none => none) else none) | none => none))) | none => none)) | none => none) else none))
noncomputable abbrev F12_d (N : Nat) (x : ByteArray) : Option ((List (List AV)) × Int) := (F12_s N).d x
theorem F12_par24 (N : Nat) : Par (F12_l24 N).b := by
  intro x α β kn ke kn' ke' r r' h h1 h2
  revert h
  dsimp only [F12_l24]
  (repeat' (first | (with_reducible refine par_ite ?_ ?_) | (with_reducible refine par_both ?_ ?_) | split)) <;> intro h <;> first | exact h1 _ h | exact h2 _ h | (cases h; done)
theorem F12_body24 (N : Nat) (x : (F12_l24 N).X) (α : Type) (kn : AS → Option α) (ke : Out → Option α) : around (tabB Tryd.prog [62]) (F12_g N) F12_an (lam N [(13, F12_l13 N), (24, F12_l24 N)]) 24 (bodyOf (nthLoop 24 (Tryd.f12.body.getD .skip))) ((F12_l24 N).st x) kn ke = (F12_l24 N).b x α (fun x' => kn ((F12_l24 N).st x')) (fun y => (F12_l24 N).sp y α ke) := by kernel_rfl
theorem F12_pat24 (N : Nat) (s : AS) (x : (F12_l24 N).X) (hc : s = canon (F12_an 24).1 s) (h : (F12_l24 N).p s = some x) : s = (F12_l24 N).st x := by
  dsimp only [F12_l24] at h
  split at h
  · cases h
    exact canon_mk hc ‹_› ‹_› rfl rfl rfl ⟨‹_›, ‹_›, ‹_›, ‹_›, ‹_›, ‹_›, ‹_›, trivial⟩ ⟨‹_›, trivial⟩
  · cases h
theorem F12_loop24 (N : Nat) : ∀ s o, s = canon (F12_an 24).1 s → (lam N [(13, F12_l13 N), (24, F12_l24 N)]).v 24 s = some o → LoopSem Tryd.prog (nthLoop 24 (Tryd.f12.body.getD .skip)) s o :=
  loop_ok (tabB_ok Tryd.prog [62]) (gam_ok _) mixed F12_an N [(13, F12_l13 N), (24, F12_l24 N)] 24 (bodyOf (nthLoop 24 (Tryd.f12.body.getD .skip))) (nthLoop 24 (Tryd.f12.body.getD .skip)) (by kernel_rfl) (by
    have e : actOf F12_an (bodyOf (nthLoop 24 (Tryd.f12.body.getD .skip))) (24 + 1) = [] := by kernel_rfl
    rw [e]
    intro p hp
    cases hp) (F12_l24 N) rfl (fun s x hc h => F12_pat24 N s x hc h) (fun x => rfl) (fun x α kn ke => (F12_body24 N x α kn ke).trans (congrArg ((F12_l24 N).b x α _) (funext fun y => (F12_l24 N).spe y α ke))) (F12_par24 N)
theorem F12_par13 (N : Nat) : Par (F12_l13 N).b := by
  intro x α β kn ke kn' ke' r r' h h1 h2
  revert h
  dsimp only [F12_l13]
  (repeat' (first | (with_reducible refine par_ite ?_ ?_) | (with_reducible refine par_both ?_ ?_) | split)) <;> intro h <;> first | exact h1 _ h | exact h2 _ h | (cases h; done)
theorem F12_body13 (N : Nat) (x : (F12_l13 N).X) (α : Type) (kn : AS → Option α) (ke : Out → Option α) : around (tabB Tryd.prog [62]) (F12_g N) F12_an (lam N [(13, F12_l13 N), (24, F12_l24 N)]) 13 (bodyOf (nthLoop 13 (Tryd.f12.body.getD .skip))) ((F12_l13 N).st x) kn ke = (F12_l13 N).b x α (fun x' => kn ((F12_l13 N).st x')) (fun y => (F12_l13 N).sp y α ke) := by kernel_rfl
theorem F12_pat13 (N : Nat) (s : AS) (x : (F12_l13 N).X) (hc : s = canon (F12_an 13).1 s) (h : (F12_l13 N).p s = some x) : s = (F12_l13 N).st x := by
  dsimp only [F12_l13] at h
  split at h
  · cases h
    exact canon_mk hc ‹_› ‹_› rfl rfl rfl ⟨‹_›, ‹_›, ‹_›, ‹_›, trivial⟩ ⟨‹_›, trivial⟩
  · cases h
theorem F12_loop13 (N : Nat) : ∀ s o, s = canon (F12_an 13).1 s → (lam N [(13, F12_l13 N), (24, F12_l24 N)]).v 13 s = some o → LoopSem Tryd.prog (nthLoop 13 (Tryd.f12.body.getD .skip)) s o :=
  loop_ok (tabB_ok Tryd.prog [62]) (gam_ok _) mixed F12_an N [(13, F12_l13 N), (24, F12_l24 N)] 13 (bodyOf (nthLoop 13 (Tryd.f12.body.getD .skip))) (nthLoop 13 (Tryd.f12.body.getD .skip)) (by kernel_rfl) (by
    have e : actOf F12_an (bodyOf (nthLoop 13 (Tryd.f12.body.getD .skip))) (13 + 1) = [(24, nthLoop 24 (Tryd.f12.body.getD .skip))] := by kernel_rfl
    rw [e]
    intro p hp
    rcases List.mem_cons.1 hp with rfl | hp
    · exact F12_loop24 N
    cases hp) (F12_l13 N) rfl (fun s x hc h => F12_pat13 N s x hc h) (fun x => rfl) (fun x α kn ke => (F12_body13 N x α kn ke).trans (congrArg ((F12_l13 N).b x α _) (funext fun y => (F12_l13 N).spe y α ke))) (F12_par13 N)
theorem F12_parF (N : Nat) : ParF (F12_s N).t := by
  intro x α β k k' r r' h h1
  revert h
  dsimp only [F12_s]
  (repeat' (first | (with_reducible refine par_ite ?_ ?_) | (with_reducible refine par_both ?_ ?_) | split)) <;> intro h <;> first | exact h1 _ h | (cases h; done)
theorem F12_text (N : Nat) (x : (F12_s N).X) : acall (tabB Tryd.prog [62]) (F12_g N) F12_an (lam N [(13, F12_l13 N), (24, F12_l24 N)]) Tryd.f12 (F12_s N).S ((F12_s N).args x) ((F12_s N).bs x) = (F12_s N).t x Ret (fun y => some ((F12_s N).ret y)) := by kernel_rfl
theorem F12_pat (N : Nat) (a : List AV) (b : List (List AV)) (x : (F12_s N).X) (h : (F12_s N).pat a b = some x) : a = (F12_s N).args x ∧ b = (F12_s N).bs x := by
  dsimp only [F12_s] at h
  split at h
  · cases h; exact ⟨rfl, rfl⟩
  · cases h
noncomputable def F12_e (N : Nat) : Ent Tryd.prog := entOf (tabB_ok Tryd.prog [62]) (gam_ok _) mixed 12 Tryd.f12 Tryd.func12 rfl F12_an (lam N [(13, F12_l13 N), (24, F12_l24 N)]) (by
    have e : actOf F12_an (Tryd.f12.body.getD .skip) 0 = [(13, nthLoop 13 (Tryd.f12.body.getD .skip)), (24, nthLoop 24 (Tryd.f12.body.getD .skip))] := by kernel_rfl
    rw [e]
    intro p hp
    rcases List.mem_cons.1 hp with rfl | hp
    · exact F12_loop13 N
    rcases List.mem_cons.1 hp with rfl | hp
    · exact F12_loop24 N
    cases hp) (F12_s N) (fun _ => ⟨rfl, rfl⟩) (F12_text N) (F12_pat N) (F12_parF N)
/-! ### seismonet/nat.Valid$1 (function 45) -/
def F45_an : Nat → Keep × Keep := anL []
noncomputable def F45_g (N : Nat) : GamK := gam (P := Tryd.prog) []
noncomputable def F45_s (N : Nat) : FSpec where
  X := Int
  Y := Bool
  ash := [[none]]
  bsh := []
  S := ⟨[[none]], [], [], [], []⟩
  bm := false
  pat := fun a b => match a, b with
    | [(AV.v (.int .i64 a0))], [] => some a0
    | _, _ => none
  args := fun x => [(AV.v (.int .i64 x))]
  bs := fun x => []
  ret := fun y => ⟨(AV.v (.bool y)), [], none, [], [], []⟩
  t := fun x α k => (match (decide (x < 0)) with | true => (k true) | false => (k (decide (x ≥ 1073741824))))
noncomputable abbrev F45_d (N : Nat) (x : Int) : Option (Bool) := (F45_s N).d x
theorem F45_parF (N : Nat) : ParF (F45_s N).t := by
  intro x α β k k' r r' h h1
  revert h
  dsimp only [F45_s]
  (repeat' (first | (with_reducible refine par_ite ?_ ?_) | (with_reducible refine par_both ?_ ?_) | split)) <;> intro h <;> first | exact h1 _ h | (cases h; done)
theorem F45_text (N : Nat) (x : (F45_s N).X) : acall (tabOf Tryd.prog) (F45_g N) F45_an (lam N []) Tryd.f45 (F45_s N).S ((F45_s N).args x) ((F45_s N).bs x) = (F45_s N).t x Ret (fun y => some ((F45_s N).ret y)) := by kernel_rfl
theorem F45_pat (N : Nat) (a : List AV) (b : List (List AV)) (x : (F45_s N).X) (h : (F45_s N).pat a b = some x) : a = (F45_s N).args x ∧ b = (F45_s N).bs x := by
  dsimp only [F45_s] at h
  split at h
  · cases h; exact ⟨rfl, rfl⟩
  · cases h
noncomputable def F45_e (N : Nat) : Ent Tryd.prog := entOf (tabOf_ok Tryd.prog) (gam_ok _) mixed 45 Tryd.f45 Tryd.func45 rfl F45_an (lam N []) (by
    have e : actOf F45_an (Tryd.f45.body.getD .skip) 0 = [] := by kernel_rfl
    rw [e]
    intro p hp
    cases hp) (F45_s N) (fun _ => ⟨rfl, rfl⟩) (F45_text N) (F45_pat N) (F45_parF N)
/-! ### slices.IndexFunc[seismonet/api.Nat,int] (function 63) -/
def F63_an : Nat → Keep × Keep := anL [(4, ⟨[1, 7, 8], [], [], [(0, 1)], [], [], [], [], false⟩, ⟨[4], [], [], [], [], [], [], [], false⟩)]
noncomputable def F63_g (N : Nat) : GamK := gam (P := Tryd.prog) [F45_e N]
noncomputable def F63_l4 (N : Nat) : LSpec where
  X := (List (List AV)) × Int × Int
  Y := (Int) ⊕ (Unit)
  p := fun s => match s.env.length, s.nin, s.at 0, s.at 1, s.at 7, s.at 8 with
    | 19, 0, (AV.list 1 a0 none), (AV.fn (.func 45) [] []), (AV.v (.int .i64 a1)), (AV.v (.int .i64 a2)) => some (a0, a1, a2)
    | _, _, _, _, _, _ => none
  st := fun x => mkS 19 [(0, (AV.list 1 x.1 none)), (1, (AV.fn (.func 45) [] [])), (7, (AV.v (.int .i64 x.2.1))), (8, (AV.v (.int .i64 x.2.2)))] [] (F63_an 4).1.toks 0
  out := fun y => match y with
    | .inl y => (.ret, mkS 19 [(4, (AV.v (.int .i64 y)))] [] (F63_an 4).2.toks 0)
    | .inr y => (.exit 0, mkS 19 [] [] (F63_an 4).2.toks 0)
  sp := fun y α k => match y with
    | .inl y => k (.ret, mkS 19 [(4, (AV.v (.int .i64 y)))] [] (F63_an 4).2.toks 0)
    | .inr y => k (.exit 0, mkS 19 [] [] (F63_an 4).2.toks 0)
  spe := fun y α k => by rcases y with _ | _ <;> rfl
  b := fun x α kn ke => (match (decide (x.2.2 < x.2.1)) with | true => (if 0 ≤ x.2.2 then (match x.1[x.2.2.toNat]? with | some c1 => (match c1[0]? with | some x2 => (match x2 with | .v (.int q4 n3) => (if q4 = .i64 then (match F45_d N n3 with | some y5 => (match y5 with | true => (ke (.inl x.2.2)) | false => (kn (x.1, x.2.1, (i64 (x.2.2 + 1))))) | none => none) else none) | _ => none) | none => none) | none => none) else none) | false => (ke (.inr ())))
noncomputable abbrev F63_d4 (N : Nat) (x : (List (List AV)) × Int × Int) : Option ((Int) ⊕ (Unit)) := (F63_l4 N).L N x
noncomputable def F63_s (N : Nat) : FSpec where
  X := (List (List AV))
  Y := Int
  ash := [[some 1], [none]]
  bsh := []
  S := ⟨[[none]], [], [], [], []⟩
  bm := false
  pat := fun a b => match a, b with
    | [(AV.list 1 a0 none), (AV.fn (.func 45) [] [])], [] => some a0
    | _, _ => none
  args := fun x => [(AV.list 1 x none), (AV.fn (.func 45) [] [])]
  bs := fun x => []
  ret := fun y => ⟨(AV.v (.int .i64 y)), [], none, [], [], []⟩
  t := fun x α k => (match F63_d4 N (x, (x.length : Int), 0) with | some y6 => (match y6 with | .inl z7 => (k z7) | .inr z8 => (k (-1))) | none => none)
noncomputable abbrev F63_d (N : Nat) (x : (List (List AV))) : Option (Int) := (F63_s N).d x
theorem F63_par4 (N : Nat) : Par (F63_l4 N).b := by
  intro x α β kn ke kn' ke' r r' h h1 h2
  revert h
  dsimp only [F63_l4]
  (repeat' (first | (with_reducible refine par_ite ?_ ?_) | (with_reducible refine par_both ?_ ?_) | split)) <;> intro h <;> first | exact h1 _ h | exact h2 _ h | (cases h; done)
theorem F63_body4 (N : Nat) (x : (F63_l4 N).X) (α : Type) (kn : AS → Option α) (ke : Out → Option α) : around (tabOf Tryd.prog) (F63_g N) F63_an (lam N [(4, F63_l4 N)]) 4 (bodyOf (nthLoop 4 (Tryd.f63.body.getD .skip))) ((F63_l4 N).st x) kn ke = (F63_l4 N).b x α (fun x' => kn ((F63_l4 N).st x')) (fun y => (F63_l4 N).sp y α ke) := by kernel_rfl
theorem F63_pat4 (N : Nat) (s : AS) (x : (F63_l4 N).X) (hc : s = canon (F63_an 4).1 s) (h : (F63_l4 N).p s = some x) : s = (F63_l4 N).st x := by
  dsimp only [F63_l4] at h
  split at h
  · cases h
    exact canon_mk hc ‹_› ‹_› rfl rfl rfl ⟨‹_›, ‹_›, ‹_›, ‹_›, trivial⟩ trivial
  · cases h
theorem F63_loop4 (N : Nat) : ∀ s o, s = canon (F63_an 4).1 s → (lam N [(4, F63_l4 N)]).v 4 s = some o → LoopSem Tryd.prog (nthLoop 4 (Tryd.f63.body.getD .skip)) s o :=
  loop_ok (tabOf_ok Tryd.prog) (gam_ok _) mixed F63_an N [(4, F63_l4 N)] 4 (bodyOf (nthLoop 4 (Tryd.f63.body.getD .skip))) (nthLoop 4 (Tryd.f63.body.getD .skip)) (by kernel_rfl) (by
    have e : actOf F63_an (bodyOf (nthLoop 4 (Tryd.f63.body.getD .skip))) (4 + 1) = [] := by kernel_rfl
    rw [e]
    intro p hp
    cases hp) (F63_l4 N) rfl (fun s x hc h => F63_pat4 N s x hc h) (fun x => rfl) (fun x α kn ke => (F63_body4 N x α kn ke).trans (congrArg ((F63_l4 N).b x α _) (funext fun y => (F63_l4 N).spe y α ke))) (F63_par4 N)
theorem F63_parF (N : Nat) : ParF (F63_s N).t := by
  intro x α β k k' r r' h h1
  revert h
  dsimp only [F63_s]
  (repeat' (first | (with_reducible refine par_ite ?_ ?_) | (with_reducible refine par_both ?_ ?_) | split)) <;> intro h <;> first | exact h1 _ h | (cases h; done)
theorem F63_text (N : Nat) (x : (F63_s N).X) : acall (tabOf Tryd.prog) (F63_g N) F63_an (lam N [(4, F63_l4 N)]) Tryd.f63 (F63_s N).S ((F63_s N).args x) ((F63_s N).bs x) = (F63_s N).t x Ret (fun y => some ((F63_s N).ret y)) := by kernel_rfl
theorem F63_pat (N : Nat) (a : List AV) (b : List (List AV)) (x : (F63_s N).X) (h : (F63_s N).pat a b = some x) : a = (F63_s N).args x ∧ b = (F63_s N).bs x := by
  dsimp only [F63_s] at h
  split at h
  · cases h; exact ⟨rfl, rfl⟩
  · cases h
noncomputable def F63_e (N : Nat) : Ent Tryd.prog := entOf (tabOf_ok Tryd.prog) (gam_ok _) mixed 63 Tryd.f63 Tryd.func63 rfl F63_an (lam N [(4, F63_l4 N)]) (by
    have e : actOf F63_an (Tryd.f63.body.getD .skip) 0 = [(4, nthLoop 4 (Tryd.f63.body.getD .skip))] := by kernel_rfl
    rw [e]
    intro p hp
    rcases List.mem_cons.1 hp with rfl | hp
    · exact F63_loop4 N
    cases hp) (F63_s N) (fun _ => ⟨rfl, rfl⟩) (F63_text N) (F63_pat N) (F63_parF N)
/-! ### slices.ContainsFunc[seismonet/api.Nat,int] (function 44) -/
def F44_an : Nat → Keep × Keep := anL []
noncomputable def F44_g (N : Nat) : GamK := gam (P := Tryd.prog) [F63_e N]
noncomputable def F44_s (N : Nat) : FSpec where
  X := (List (List AV))
  Y := Bool
  ash := [[some 1], [none]]
  bsh := []
  S := ⟨[[none]], [], [], [], []⟩
  bm := false
  pat := fun a b => match a, b with
    | [(AV.list 1 a0 none), (AV.fn (.func 45) [] [])], [] => some a0
    | _, _ => none
  args := fun x => [(AV.list 1 x none), (AV.fn (.func 45) [] [])]
  bs := fun x => []
  ret := fun y => ⟨(AV.v (.bool y)), [], none, [], [], []⟩
  t := fun x α k => (match F63_d N x with | some y1 => (k (decide (y1 ≥ 0))) | none => none)
noncomputable abbrev F44_d (N : Nat) (x : (List (List AV))) : Option (Bool) := (F44_s N).d x
theorem F44_parF (N : Nat) : ParF (F44_s N).t := by
  intro x α β k k' r r' h h1
  revert h
  dsimp only [F44_s]
  (repeat' (first | (with_reducible refine par_ite ?_ ?_) | (with_reducible refine par_both ?_ ?_) | split)) <;> intro h <;> first | exact h1 _ h | (cases h; done)
theorem F44_text (N : Nat) (x : (F44_s N).X) : acall (tabOf Tryd.prog) (F44_g N) F44_an (lam N []) Tryd.f44 (F44_s N).S ((F44_s N).args x) ((F44_s N).bs x) = (F44_s N).t x Ret (fun y => some ((F44_s N).ret y)) := by kernel_rfl
theorem F44_pat (N : Nat) (a : List AV) (b : List (List AV)) (x : (F44_s N).X) (h : (F44_s N).pat a b = some x) : a = (F44_s N).args x ∧ b = (F44_s N).bs x := by
  dsimp only [F44_s] at h
  split at h
  · cases h; exact ⟨rfl, rfl⟩
  · cases h
noncomputable def F44_e (N : Nat) : Ent Tryd.prog := entOf (tabOf_ok Tryd.prog) (gam_ok _) mixed 44 Tryd.f44 Tryd.func44 rfl F44_an (lam N []) (by
    have e : actOf F44_an (Tryd.f44.body.getD .skip) 0 = [] := by kernel_rfl
    rw [e]
    intro p hp
    cases hp) (F44_s N) (fun _ => ⟨rfl, rfl⟩) (F44_text N) (F44_pat N) (F44_parF N)
/-! ### seismonet/nat.Valid (function 29) -/
def F29_an : Nat → Keep × Keep := anL []
noncomputable def F29_g (N : Nat) : GamK := gam (P := Tryd.prog) [F44_e N]
noncomputable def F29_s (N : Nat) : FSpec where
  X := (List (List AV))
  Y := Bool
  ash := [[some 1]]
  bsh := []
  S := ⟨[[none]], [], [], [], []⟩
  bm := false
  pat := fun a b => match a, b with
    | [(AV.list 1 a0 none)], [] => some a0
    | _, _ => none
  args := fun x => [(AV.list 1 x none)]
  bs := fun x => []
  ret := fun y => ⟨(AV.v (.bool y)), [], none, [], [], []⟩
  t := fun x α k => (match (decide ((x.length : Int) > 64)) with | true => (k false) | false => (match (decide ((x.length : Int) > 0)) with | true => (if 0 ≤ (i64 ((x.length : Int) - 1)) then (match x[(i64 ((x.length : Int) - 1)).toNat]? with | some c1 => (match c1[0]? with | some x2 => (match x2 with | .v (.int q4 n3) => (if q4 = .i64 then (match (n3 == 0) with | true => (k false) | false => (match F44_d N x with | some y5 => (k (!y5)) | none => none)) else none) | _ => none) | none => none) | none => none) else none) | false => (match F44_d N x with | some y6 => (k (!y6)) | none => none)))
noncomputable abbrev F29_d (N : Nat) (x : (List (List AV))) : Option (Bool) := (F29_s N).d x
theorem F29_parF (N : Nat) : ParF (F29_s N).t := by
  intro x α β k k' r r' h h1
  revert h
  dsimp only [F29_s]
  (repeat' (first | (with_reducible refine par_ite ?_ ?_) | (with_reducible refine par_both ?_ ?_) | split)) <;> intro h <;> first | exact h1 _ h | (cases h; done)
theorem F29_text (N : Nat) (x : (F29_s N).X) : acall (tabOf Tryd.prog) (F29_g N) F29_an (lam N []) Tryd.f29 (F29_s N).S ((F29_s N).args x) ((F29_s N).bs x) = (F29_s N).t x Ret (fun y => some ((F29_s N).ret y)) := by kernel_rfl
theorem F29_pat (N : Nat) (a : List AV) (b : List (List AV)) (x : (F29_s N).X) (h : (F29_s N).pat a b = some x) : a = (F29_s N).args x ∧ b = (F29_s N).bs x := by
  dsimp only [F29_s] at h
  split at h
  · cases h; exact ⟨rfl, rfl⟩
  · cases h
noncomputable def F29_e (N : Nat) : Ent Tryd.prog := entOf (tabOf_ok Tryd.prog) (gam_ok _) mixed 29 Tryd.f29 Tryd.func29 rfl F29_an (lam N []) (by
    have e : actOf F29_an (Tryd.f29.body.getD .skip) 0 = [] := by kernel_rfl
    rw [e]
    intro p hp
    cases hp) (F29_s N) (fun _ => ⟨rfl, rfl⟩) (F29_text N) (F29_pat N) (F29_parF N)
/-! ### seismonet/nat.divide (function 30) -/
def F30_an : Nat → Keep × Keep := anF [(6, ⟨[1, 6, 7, 8], [], [11], [(0, 1)], [], [], [], [11], false⟩, ⟨[6, 7], [], [11], [], [], [], [], [11], false⟩)] [(100009, ([6], []))]
noncomputable def F30_g (N : Nat) : GamK := gam (P := Tryd.prog) [F46_e N]
noncomputable def F30_l6 (N : Nat) : LSpec where
  X := (List (List AV)) × Int × Nat × Int × Int × (List AV)
  Y := (Nat × Int × (List AV))
  p := fun s => match s.env.length, s.nin, s.at 0, s.at 1, s.at 6, s.at 7, s.at 8, s.bx 11 with
    | 38, 0, (AV.list 1 a0 none), (AV.v (.int .i64 a1)), (AV.vs 11 0 a2 1), (AV.v (.int .i64 a3)), (AV.v (.int .i64 a4)), some a5 => some (a0, a1, a2, a3, a4, a5)
    | _, _, _, _, _, _, _, _ => none
  st := fun x => mkS 38 [(0, (AV.list 1 x.1 none)), (1, (AV.v (.int .i64 x.2.1))), (6, (AV.vs 11 0 x.2.2.1 1)), (7, (AV.v (.int .i64 x.2.2.2.1))), (8, (AV.v (.int .i64 x.2.2.2.2.1)))] [(11, x.2.2.2.2.2)] (F30_an 6).1.toks 0
  out := fun y => (.exit 0, mkS 38 [(6, (AV.vs 11 0 y.1 1)), (7, (AV.v (.int .i64 y.2.1)))] [(11, y.2.2)] (F30_an 6).2.toks 0)
  sp := fun y α k => k (.exit 0, mkS 38 [(6, (AV.vs 11 0 y.1 1)), (7, (AV.v (.int .i64 y.2.1)))] [(11, y.2.2)] (F30_an 6).2.toks 0)
  spe := fun y α k => rfl
  b := fun x α kn ke => (match (decide (x.2.2.2.2.1 ≥ 0)) with | true => (if 0 ≤ x.2.2.2.2.1 then (match x.1[x.2.2.2.2.1.toNat]? with | some c5 => (match c5[0]? with | some x6 => (match x6 with | .v (.int q8 n7) => (if q8 = .i64 then (if x.2.1 = 0 then none else (if 0 ≤ x.2.2.2.2.1 ∧ x.2.2.2.2.1 < (x.2.2.1 : Int) then (if ((0 + x.2.2.2.2.1.toNat) * 1) + 1 ≤ x.2.2.2.2.2.length then (if x.2.1 = 0 then none else (kn (x.1, x.2.1, x.2.2.1, ((bOr .i64 (shL .i64 x.2.2.2.1 (30 : Int)) n7).tmod x.2.1), (i64 (x.2.2.2.2.1 - 1)), ((x.2.2.2.2.2.set (((0 + x.2.2.2.2.1.toNat) * 1)) (AV.v (.int .i64 (i64 ((bOr .i64 (shL .i64 x.2.2.2.1 (30 : Int)) n7).tdiv x.2.1))))).map dat0)))) else none) else none)) else none) | _ => none) | none => none) | none => none) else none) | false => (ke (x.2.2.1, x.2.2.2.1, (x.2.2.2.2.2.map dat0))))
noncomputable abbrev F30_d6 (N : Nat) (x : (List (List AV)) × Int × Nat × Int × Int × (List AV)) : Option ((Nat × Int × (List AV))) := (F30_l6 N).L N x
noncomputable def F30_s (N : Nat) : FSpec where
  X := (List (List AV)) × Int
  Y := (List (List AV)) × Int
  ash := [[some 1], [none]]
  bsh := []
  S := ⟨[[some 1], [none]], [], [], [], []⟩
  bm := false
  pat := fun a b => match a, b with
    | [(AV.list 1 a0 none), (AV.v (.int .i64 a1))], [] => some (a0, a1)
    | _, _ => none
  args := fun x => [(AV.list 1 x.1 none), (AV.v (.int .i64 x.2))]
  bs := fun x => []
  ret := fun y => ⟨(AV.tup [(AV.list 1 y.1 none), (AV.v (.int .i64 y.2))]), [], none, [], [], []⟩
  t := fun x α k => (if 0 ≤ (x.1.length : Int) ∧ (x.1.length : Int) ≤ (x.1.length : Int) ∧ (x.1.length : Int).toNat * 8 ≤ maxBytes then (match F30_d6 N (x.1, x.2, ((x.1.length : Int).toNat), 0, (i64 ((x.1.length : Int) - 1)), ((List.replicate (x.1.length : Int).toNat (AV.v (.int .i64 0))).map dat0)) with | some y9 => (if y9.1 * 1 ≤ y9.2.2.length then (match F46_d N (chunks (y9.2.2.take (y9.1 * 1)) 1 y9.1) with | some y10 => (k (y10, y9.2.1)) | none => none) else none) | none => none) else none)
noncomputable abbrev F30_d (N : Nat) (x : (List (List AV)) × Int) : Option ((List (List AV)) × Int) := (F30_s N).d x
theorem F30_par6 (N : Nat) : Par (F30_l6 N).b := by
  intro x α β kn ke kn' ke' r r' h h1 h2
  revert h
  dsimp only [F30_l6]
  (repeat' (first | (with_reducible refine par_ite ?_ ?_) | (with_reducible refine par_both ?_ ?_) | split)) <;> intro h <;> first | exact h1 _ h | exact h2 _ h | (cases h; done)
theorem F30_body6 (N : Nat) (x : (F30_l6 N).X) (α : Type) (kn : AS → Option α) (ke : Out → Option α) : around (tabOf Tryd.prog) (F30_g N) F30_an (lam N [(6, F30_l6 N)]) 6 (bodyOf (nthLoop 6 (Tryd.f30.body.getD .skip))) ((F30_l6 N).st x) kn ke = (F30_l6 N).b x α (fun x' => kn ((F30_l6 N).st x')) (fun y => (F30_l6 N).sp y α ke) := by kernel_rfl
theorem F30_pat6 (N : Nat) (s : AS) (x : (F30_l6 N).X) (hc : s = canon (F30_an 6).1 s) (h : (F30_l6 N).p s = some x) : s = (F30_l6 N).st x := by
  dsimp only [F30_l6] at h
  split at h
  · cases h
    exact canon_mk hc ‹_› ‹_› rfl rfl rfl ⟨‹_›, ‹_›, ‹_›, ‹_›, ‹_›, trivial⟩ ⟨‹_›, trivial⟩
  · cases h
theorem F30_loop6 (N : Nat) : ∀ s o, s = canon (F30_an 6).1 s → (lam N [(6, F30_l6 N)]).v 6 s = some o → LoopSem Tryd.prog (nthLoop 6 (Tryd.f30.body.getD .skip)) s o :=
  loop_ok (tabOf_ok Tryd.prog) (gam_ok _) mixed F30_an N [(6, F30_l6 N)] 6 (bodyOf (nthLoop 6 (Tryd.f30.body.getD .skip))) (nthLoop 6 (Tryd.f30.body.getD .skip)) (by kernel_rfl) (by
    have e : actOf F30_an (bodyOf (nthLoop 6 (Tryd.f30.body.getD .skip))) (6 + 1) = [] := by kernel_rfl
    rw [e]
    intro p hp
    cases hp) (F30_l6 N) rfl (fun s x hc h => F30_pat6 N s x hc h) (fun x => rfl) (fun x α kn ke => (F30_body6 N x α kn ke).trans (congrArg ((F30_l6 N).b x α _) (funext fun y => (F30_l6 N).spe y α ke))) (F30_par6 N)
theorem F30_parF (N : Nat) : ParF (F30_s N).t := by
  intro x α β k k' r r' h h1
  revert h
  dsimp only [F30_s]
  (repeat' (first | (with_reducible refine par_ite ?_ ?_) | (with_reducible refine par_both ?_ ?_) | split)) <;> intro h <;> first | exact h1 _ h | (cases h; done)
theorem F30_text (N : Nat) (x : (F30_s N).X) : acall (tabOf Tryd.prog) (F30_g N) F30_an (lam N [(6, F30_l6 N)]) Tryd.f30 (F30_s N).S ((F30_s N).args x) ((F30_s N).bs x) = (F30_s N).t x Ret (fun y => some ((F30_s N).ret y)) := by kernel_rfl
theorem F30_pat (N : Nat) (a : List AV) (b : List (List AV)) (x : (F30_s N).X) (h : (F30_s N).pat a b = some x) : a = (F30_s N).args x ∧ b = (F30_s N).bs x := by
  dsimp only [F30_s] at h
  split at h
  · cases h; exact ⟨rfl, rfl⟩
  · cases h
noncomputable def F30_e (N : Nat) : Ent Tryd.prog := entOf (tabOf_ok Tryd.prog) (gam_ok _) mixed 30 Tryd.f30 Tryd.func30 rfl F30_an (lam N [(6, F30_l6 N)]) (by
    have e : actOf F30_an (Tryd.f30.body.getD .skip) 0 = [(6, nthLoop 6 (Tryd.f30.body.getD .skip))] := by kernel_rfl
    rw [e]
    intro p hp
    rcases List.mem_cons.1 hp with rfl | hp
    · exact F30_loop6 N
    cases hp) (F30_s N) (fun _ => ⟨rfl, rfl⟩) (F30_text N) (F30_pat N) (F30_parF N)
/-! ### slices.Reverse[[]string,string] (function 33) -/
def F33_an : Nat → Keep × Keep := anL [(2, ⟨[0, 2, 3], [], [0], [], [], [], [], [0], false⟩, ⟨[], [], [0], [], [], [], [], [0], false⟩)]
noncomputable def F33_g (N : Nat) : GamK := gam (P := Tryd.prog) []
noncomputable def F33_l2 (N : Nat) : LSpec where
  X := Nat × Int × Int × (List AV)
  Y := ((List AV))
  p := fun s => match s.env.length, s.nin, s.at 0, s.at 2, s.at 3, s.bx 0 with
    | 28, 1, (AV.vs 0 0 a0 1), (AV.v (.int .i64 a1)), (AV.v (.int .i64 a2)), some a3 => some (a0, a1, a2, a3)
    | _, _, _, _, _, _ => none
  st := fun x => mkS 28 [(0, (AV.vs 0 0 x.1 1)), (2, (AV.v (.int .i64 x.2.1))), (3, (AV.v (.int .i64 x.2.2.1)))] [(0, x.2.2.2)] (F33_an 2).1.toks 1
  out := fun y => (.exit 0, mkS 28 [] [(0, y)] (F33_an 2).2.toks 1)
  sp := fun y α k => k (.exit 0, mkS 28 [] [(0, y)] (F33_an 2).2.toks 1)
  spe := fun y α k => rfl
  b := fun x α kn ke => (match (decide (x.2.1 < x.2.2.1)) with | true => (if 0 ≤ x.2.2.1 ∧ x.2.2.1 < (x.1 : Int) then (match x.2.2.2[((0 + x.2.2.1.toNat) * 1)]? with | some x5 => (match x5 with | .v (.string s6) => (if 0 ≤ x.2.1 ∧ x.2.1 < (x.1 : Int) then (match x.2.2.2[((0 + x.2.1.toNat) * 1)]? with | some x7 => (match x7 with | .v (.string s8) => (if 0 ≤ x.2.1 ∧ x.2.1 < (x.1 : Int) then (if ((0 + x.2.1.toNat) * 1) + 1 ≤ x.2.2.2.length then (if 0 ≤ x.2.2.1 ∧ x.2.2.1 < (x.1 : Int) then (if ((0 + x.2.2.1.toNat) * 1) + 1 ≤ (x.2.2.2.set (((0 + x.2.1.toNat) * 1)) (AV.v (.string s6))).length then (kn (x.1, (i64 (x.2.1 + 1)), (i64 (x.2.2.1 - 1)), (((x.2.2.2.set (((0 + x.2.1.toNat) * 1)) (AV.v (.string s6))).set (((0 + x.2.2.1.toNat) * 1)) (AV.v (.string s8))).map dat0))) else none) else none) else none) else none) | _ => none) | none => none) else none) | _ => none) | none => none) else none) | false => (ke (x.2.2.2.map dat0)))
noncomputable abbrev F33_d2 (N : Nat) (x : Nat × Int × Int × (List AV)) : Option (((List AV))) := (F33_l2 N).L N x
noncomputable def F33_s (N : Nat) : FSpec where
  X := Nat × (List AV)
  Y := (List AV)
  ash := [[none]]
  bsh := [[]]
  S := ⟨[], [[]], [], [], [0]⟩
  bm := false
  pat := fun a b => match a, b with
    | [(AV.vs 0 0 a0 1)], [a1] => some (a0, a1)
    | _, _ => none
  args := fun x => [(AV.vs 0 0 x.1 1)]
  bs := fun x => [x.2]
  ret := fun y => ⟨(AV.tup []), [y], none, [], [], [0]⟩
  t := fun x α k => (match F33_d2 N (x.1, 0, (i64 (((x.1 : Nat) : Int) - 1)), (x.2.map dat0)) with | some y9 => (k (y9.map dat0)) | none => none)
noncomputable abbrev F33_d (N : Nat) (x : Nat × (List AV)) : Option ((List AV)) := (F33_s N).d x
theorem F33_par2 (N : Nat) : Par (F33_l2 N).b := by
  intro x α β kn ke kn' ke' r r' h h1 h2
  revert h
  dsimp only [F33_l2]
  (repeat' (first | (with_reducible refine par_ite ?_ ?_) | (with_reducible refine par_both ?_ ?_) | split)) <;> intro h <;> first | exact h1 _ h | exact h2 _ h | (cases h; done)
theorem F33_body2 (N : Nat) (x : (F33_l2 N).X) (α : Type) (kn : AS → Option α) (ke : Out → Option α) : around (tabOf Tryd.prog) (F33_g N) F33_an (lam N [(2, F33_l2 N)]) 2 (bodyOf (nthLoop 2 (Tryd.f33.body.getD .skip))) ((F33_l2 N).st x) kn ke = (F33_l2 N).b x α (fun x' => kn ((F33_l2 N).st x')) (fun y => (F33_l2 N).sp y α ke) := by kernel_rfl
theorem F33_pat2 (N : Nat) (s : AS) (x : (F33_l2 N).X) (hc : s = canon (F33_an 2).1 s) (h : (F33_l2 N).p s = some x) : s = (F33_l2 N).st x := by
  dsimp only [F33_l2] at h
  split at h
  · cases h
    exact canon_mk hc ‹_› ‹_› rfl rfl rfl ⟨‹_›, ‹_›, ‹_›, trivial⟩ ⟨‹_›, trivial⟩
  · cases h
theorem F33_loop2 (N : Nat) : ∀ s o, s = canon (F33_an 2).1 s → (lam N [(2, F33_l2 N)]).v 2 s = some o → LoopSem Tryd.prog (nthLoop 2 (Tryd.f33.body.getD .skip)) s o :=
  loop_ok (tabOf_ok Tryd.prog) (gam_ok _) mixed F33_an N [(2, F33_l2 N)] 2 (bodyOf (nthLoop 2 (Tryd.f33.body.getD .skip))) (nthLoop 2 (Tryd.f33.body.getD .skip)) (by kernel_rfl) (by
    have e : actOf F33_an (bodyOf (nthLoop 2 (Tryd.f33.body.getD .skip))) (2 + 1) = [] := by kernel_rfl
    rw [e]
    intro p hp
    cases hp) (F33_l2 N) rfl (fun s x hc h => F33_pat2 N s x hc h) (fun x => rfl) (fun x α kn ke => (F33_body2 N x α kn ke).trans (congrArg ((F33_l2 N).b x α _) (funext fun y => (F33_l2 N).spe y α ke))) (F33_par2 N)
theorem F33_parF (N : Nat) : ParF (F33_s N).t := by
  intro x α β k k' r r' h h1
  revert h
  dsimp only [F33_s]
  (repeat' (first | (with_reducible refine par_ite ?_ ?_) | (with_reducible refine par_both ?_ ?_) | split)) <;> intro h <;> first | exact h1 _ h | (cases h; done)
theorem F33_text (N : Nat) (x : (F33_s N).X) : acall (tabOf Tryd.prog) (F33_g N) F33_an (lam N [(2, F33_l2 N)]) Tryd.f33 (F33_s N).S ((F33_s N).args x) ((F33_s N).bs x) = (F33_s N).t x Ret (fun y => some ((F33_s N).ret y)) := by kernel_rfl
theorem F33_pat (N : Nat) (a : List AV) (b : List (List AV)) (x : (F33_s N).X) (h : (F33_s N).pat a b = some x) : a = (F33_s N).args x ∧ b = (F33_s N).bs x := by
  dsimp only [F33_s] at h
  split at h
  · cases h; exact ⟨rfl, rfl⟩
  · cases h
noncomputable def F33_e (N : Nat) : Ent Tryd.prog := entOf (tabOf_ok Tryd.prog) (gam_ok _) mixed 33 Tryd.f33 Tryd.func33 rfl F33_an (lam N [(2, F33_l2 N)]) (by
    have e : actOf F33_an (Tryd.f33.body.getD .skip) 0 = [(2, nthLoop 2 (Tryd.f33.body.getD .skip))] := by kernel_rfl
    rw [e]
    intro p hp
    rcases List.mem_cons.1 hp with rfl | hp
    · exact F33_loop2 N
    cases hp) (F33_s N) (fun _ => ⟨rfl, rfl⟩) (F33_text N) (F33_pat N) (F33_parF N)
/-! ### seismonet/nat.Text (function 11) -/
def F11_an : Nat → Keep × Keep := anF [(9, ⟨[6], [], [], [(5, 1)], [], [(4, 1)], [], [], false⟩, ⟨[], [], [], [], [], [(4, 1)], [], [], false⟩)] [(100011, ([4], []))]
noncomputable def F11_g (N : Nat) : GamK := gam (P := Tryd.prog) [F29_e N, F30_e N, F31_e N, F32_e N, F33_e N, F34_e N]
noncomputable def F11_l9 (N : Nat) : LSpec where
  X := Nat × (List (List AV)) × Int × (List AV)
  Y := (Nat × (List AV))
  p := fun s => match s.env.length, s.nin, s.at 4, s.at 5, s.at 6, s.bx 1000004 with
    | 43, 0, (AV.vs 1000004 0 a0 1), (AV.list 1 a1 none), (AV.v (.int .i64 a2)), some a3 => some (a0, a1, a2, a3)
    | _, _, _, _, _, _ => none
  st := fun x => mkS 43 [(4, (AV.vs 1000004 0 x.1 1)), (5, (AV.list 1 x.2.1 none)), (6, (AV.v (.int .i64 x.2.2.1)))] [(1000004, x.2.2.2)] (F11_an 9).1.toks 0
  out := fun y => (.exit 0, mkS 43 [(4, (AV.vs 1000004 0 y.1 1))] [(1000004, y.2)] (F11_an 9).2.toks 0)
  sp := fun y α k => k (.exit 0, mkS 43 [(4, (AV.vs 1000004 0 y.1 1))] [(1000004, y.2)] (F11_an 9).2.toks 0)
  spe := fun y α k => rfl
  b := fun x α kn ke => (match F31_d N x.2.2.1 with | some y3 => (match ((x.2.1.length : Int) == 0) with | true => (if x.1 * 1 ≤ x.2.2.2.length ∧ (x.1 + [[(AV.v (.string y3))]].length) * 16 ≤ maxBytes then (ke ((x.1 + [[(AV.v (.string y3))]].length), ((x.2.2.2.take (x.1 * 1) ++ [[(AV.v (.string y3))]].flatten).map dat0))) else none) | false => (match F32_d N ((⟨#[48]⟩ : ByteArray), (i64 (9 - (y3.size : Int)))) with | some y4 => (if y4.size + y3.size ≤ 9223372036854775807 then (if x.1 * 1 ≤ x.2.2.2.length ∧ (x.1 + [[(AV.v (.string (y4 ++ y3)))]].length) * 16 ≤ maxBytes then (match F30_d N (x.2.1, 1000000000) with | some y5 => (kn ((x.1 + [[(AV.v (.string (y4 ++ y3)))]].length), y5.1, y5.2, ((x.2.2.2.take (x.1 * 1) ++ [[(AV.v (.string (y4 ++ y3)))]].flatten).map dat0))) | none => none) else none) else none) | none => none)) | none => none)
noncomputable abbrev F11_d9 (N : Nat) (x : Nat × (List (List AV)) × Int × (List AV)) : Option ((Nat × (List AV))) := (F11_l9 N).L N x
noncomputable def F11_s (N : Nat) : FSpec where
  X := (List (List AV))
  Y := ByteArray × Int
  ash := [[some 1]]
  bsh := []
  S := ⟨[[none], [none]], [], [], [], []⟩
  bm := false
  pat := fun a b => match a, b with
    | [(AV.list 1 a0 none)], [] => some a0
    | _, _ => none
  args := fun x => [(AV.list 1 x none)]
  bs := fun x => []
  ret := fun y => ⟨(AV.tup [(AV.v (.string y.1)), (AV.v (.int .i64 y.2))]), [], none, [], [], []⟩
  t := fun x α k => (match F29_d N x with | some y1 => (match (!y1) with | true => (k ((⟨#[]⟩ : ByteArray), 1)) | false => (match F30_d N (x, 1000000000) with | some y2 => (match F11_d9 N (0, y2.1, y2.2, ([] : List AV)) with | some y6 => (match F33_d N (y6.1, (y6.2.map dat0)) with | some y7 => (if y6.1 * 1 ≤ y7.length then (match F34_d N ((chunks (y7.take (y6.1 * 1)) 1 y6.1), (⟨#[]⟩ : ByteArray)) with | some y8 => (k (y8, 0)) | none => none) else none) | none => none) | none => none) | none => none)) | none => none)
noncomputable abbrev F11_d (N : Nat) (x : (List (List AV))) : Option (ByteArray × Int) := (F11_s N).d x
theorem F11_par9 (N : Nat) : Par (F11_l9 N).b := by
  intro x α β kn ke kn' ke' r r' h h1 h2
  revert h
  dsimp only [F11_l9]
  (repeat' (first | (with_reducible refine par_ite ?_ ?_) | (with_reducible refine par_both ?_ ?_) | split)) <;> intro h <;> first | exact h1 _ h | exact h2 _ h | (cases h; done)
theorem F11_body9 (N : Nat) (x : (F11_l9 N).X) (α : Type) (kn : AS → Option α) (ke : Out → Option α) : around (tabB Tryd.prog [29, 38]) (F11_g N) F11_an (lam N [(9, F11_l9 N)]) 9 (bodyOf (nthLoop 9 (Tryd.f11.body.getD .skip))) ((F11_l9 N).st x) kn ke = (F11_l9 N).b x α (fun x' => kn ((F11_l9 N).st x')) (fun y => (F11_l9 N).sp y α ke) := by kernel_rfl
theorem F11_pat9 (N : Nat) (s : AS) (x : (F11_l9 N).X) (hc : s = canon (F11_an 9).1 s) (h : (F11_l9 N).p s = some x) : s = (F11_l9 N).st x := by
  dsimp only [F11_l9] at h
  split at h
  · cases h
    exact canon_mk hc ‹_› ‹_› rfl rfl rfl ⟨‹_›, ‹_›, ‹_›, trivial⟩ ⟨‹_›, trivial⟩
  · cases h
theorem F11_loop9 (N : Nat) : ∀ s o, s = canon (F11_an 9).1 s → (lam N [(9, F11_l9 N)]).v 9 s = some o → LoopSem Tryd.prog (nthLoop 9 (Tryd.f11.body.getD .skip)) s o :=
  loop_ok (tabB_ok Tryd.prog [29, 38]) (gam_ok _) mixed F11_an N [(9, F11_l9 N)] 9 (bodyOf (nthLoop 9 (Tryd.f11.body.getD .skip))) (nthLoop 9 (Tryd.f11.body.getD .skip)) (by kernel_rfl) (by
    have e : actOf F11_an (bodyOf (nthLoop 9 (Tryd.f11.body.getD .skip))) (9 + 1) = [] := by kernel_rfl
    rw [e]
    intro p hp
    cases hp) (F11_l9 N) rfl (fun s x hc h => F11_pat9 N s x hc h) (fun x => rfl) (fun x α kn ke => (F11_body9 N x α kn ke).trans (congrArg ((F11_l9 N).b x α _) (funext fun y => (F11_l9 N).spe y α ke))) (F11_par9 N)
theorem F11_parF (N : Nat) : ParF (F11_s N).t := by
  intro x α β k k' r r' h h1
  revert h
  dsimp only [F11_s]
  (repeat' (first | (with_reducible refine par_ite ?_ ?_) | (with_reducible refine par_both ?_ ?_) | split)) <;> intro h <;> first | exact h1 _ h | (cases h; done)
theorem F11_text (N : Nat) (x : (F11_s N).X) : acall (tabB Tryd.prog [29, 38]) (F11_g N) F11_an (lam N [(9, F11_l9 N)]) Tryd.f11 (F11_s N).S ((F11_s N).args x) ((F11_s N).bs x) = (F11_s N).t x Ret (fun y => some ((F11_s N).ret y)) := by kernel_rfl
theorem F11_pat (N : Nat) (a : List AV) (b : List (List AV)) (x : (F11_s N).X) (h : (F11_s N).pat a b = some x) : a = (F11_s N).args x ∧ b = (F11_s N).bs x := by
  dsimp only [F11_s] at h
  split at h
  · cases h; exact ⟨rfl, rfl⟩
  · cases h
noncomputable def F11_e (N : Nat) : Ent Tryd.prog := entOf (tabB_ok Tryd.prog [29, 38]) (gam_ok _) mixed 11 Tryd.f11 Tryd.func11 rfl F11_an (lam N [(9, F11_l9 N)]) (by
    have e : actOf F11_an (Tryd.f11.body.getD .skip) 0 = [(9, nthLoop 9 (Tryd.f11.body.getD .skip))] := by kernel_rfl
    rw [e]
    intro p hp
    rcases List.mem_cons.1 hp with rfl | hp
    · exact F11_loop9 N
    cases hp) (F11_s N) (fun _ => ⟨rfl, rfl⟩) (F11_text N) (F11_pat N) (F11_parF N)
/-! ### seismonet/nat.From (function 17) -/
def F17_an : Nat → Keep × Keep := anL [(8, ⟨[0], [(4, 1)], [], [], [], [], [], [], false⟩, ⟨[], [(4, 1)], [], [], [], [], [], [], false⟩)]
noncomputable def F17_g (N : Nat) : GamK := gam (P := Tryd.prog) []
noncomputable def F17_l8 (N : Nat) : LSpec where
  X := (List (List AV)) × Int
  Y := ((List (List AV)))
  p := fun s => match s.env.length, s.nin, s.at 4, s.at 0 with
    | 17, 0, (AV.list 1 a0 (some 1280000256)), (AV.v (.int .i64 a1)) => some (a0, a1)
    | _, _, _, _ => none
  st := fun x => mkS 17 [(4, (AV.list 1 x.1 (some 1280000256))), (0, (AV.v (.int .i64 x.2)))] [] (F17_an 8).1.toks 0
  out := fun y => (.exit 0, mkS 17 [(4, (AV.list 1 y (some 1280000256)))] [] (F17_an 8).2.toks 0)
  sp := fun y α k => k (.exit 0, mkS 17 [(4, (AV.list 1 y (some 1280000256)))] [] (F17_an 8).2.toks 0)
  spe := fun y α k => rfl
  b := fun x α kn ke => (match (decide (x.2 > 0)) with | true => (if (x.1.length + [[(AV.v (.int .i64 (x.2.tmod 1073741824)))]].length) * 8 ≤ maxBytes then (kn ((x.1 ++ [[(AV.v (.int .i64 (x.2.tmod 1073741824)))]]), (shR .i64 x.2 (30 : Int)))) else none) | false => (ke x.1))
noncomputable abbrev F17_d8 (N : Nat) (x : (List (List AV)) × Int) : Option (((List (List AV)))) := (F17_l8 N).L N x
noncomputable def F17_s (N : Nat) : FSpec where
  X := Int
  Y := (List (List AV)) × Int
  ash := [[none]]
  bsh := []
  S := ⟨[[some 2000001], [none]], [], [], [], []⟩
  bm := false
  pat := fun a b => match a, b with
    | [(AV.v (.int .i64 a0))], [] => some a0
    | _, _ => none
  args := fun x => [(AV.v (.int .i64 x))]
  bs := fun x => []
  ret := fun y => ⟨(AV.tup [(AV.list 1 y.1 (some 2560000000)), (AV.v (.int .i64 y.2))]), [], none, [], [2560000000], []⟩
  t := fun x α k => (match (decide (x < 0)) with | true => (k (([] : List (List AV)), 2)) | false => (match F17_d8 N (([] : List (List AV)), x) with | some y1 => (k (y1, 0)) | none => none))
noncomputable abbrev F17_d (N : Nat) (x : Int) : Option ((List (List AV)) × Int) := (F17_s N).d x
theorem F17_par8 (N : Nat) : Par (F17_l8 N).b := by
  intro x α β kn ke kn' ke' r r' h h1 h2
  revert h
  dsimp only [F17_l8]
  (repeat' (first | (with_reducible refine par_ite ?_ ?_) | (with_reducible refine par_both ?_ ?_) | split)) <;> intro h <;> first | exact h1 _ h | exact h2 _ h | (cases h; done)
theorem F17_body8 (N : Nat) (x : (F17_l8 N).X) (α : Type) (kn : AS → Option α) (ke : Out → Option α) : around (tabOf Tryd.prog) (F17_g N) F17_an (lam N [(8, F17_l8 N)]) 8 (bodyOf (nthLoop 8 (Tryd.f17.body.getD .skip))) ((F17_l8 N).st x) kn ke = (F17_l8 N).b x α (fun x' => kn ((F17_l8 N).st x')) (fun y => (F17_l8 N).sp y α ke) := by kernel_rfl
theorem F17_pat8 (N : Nat) (s : AS) (x : (F17_l8 N).X) (hc : s = canon (F17_an 8).1 s) (h : (F17_l8 N).p s = some x) : s = (F17_l8 N).st x := by
  dsimp only [F17_l8] at h
  split at h
  · cases h
    exact canon_mk hc ‹_› ‹_› rfl rfl rfl ⟨‹_›, ‹_›, trivial⟩ trivial
  · cases h
theorem F17_loop8 (N : Nat) : ∀ s o, s = canon (F17_an 8).1 s → (lam N [(8, F17_l8 N)]).v 8 s = some o → LoopSem Tryd.prog (nthLoop 8 (Tryd.f17.body.getD .skip)) s o :=
  loop_ok (tabOf_ok Tryd.prog) (gam_ok _) mixed F17_an N [(8, F17_l8 N)] 8 (bodyOf (nthLoop 8 (Tryd.f17.body.getD .skip))) (nthLoop 8 (Tryd.f17.body.getD .skip)) (by kernel_rfl) (by
    have e : actOf F17_an (bodyOf (nthLoop 8 (Tryd.f17.body.getD .skip))) (8 + 1) = [] := by kernel_rfl
    rw [e]
    intro p hp
    cases hp) (F17_l8 N) rfl (fun s x hc h => F17_pat8 N s x hc h) (fun x => rfl) (fun x α kn ke => (F17_body8 N x α kn ke).trans (congrArg ((F17_l8 N).b x α _) (funext fun y => (F17_l8 N).spe y α ke))) (F17_par8 N)
theorem F17_parF (N : Nat) : ParF (F17_s N).t := by
  intro x α β k k' r r' h h1
  revert h
  dsimp only [F17_s]
  (repeat' (first | (with_reducible refine par_ite ?_ ?_) | (with_reducible refine par_both ?_ ?_) | split)) <;> intro h <;> first | exact h1 _ h | (cases h; done)
theorem F17_text (N : Nat) (x : (F17_s N).X) : acall (tabOf Tryd.prog) (F17_g N) F17_an (lam N [(8, F17_l8 N)]) Tryd.f17 (F17_s N).S ((F17_s N).args x) ((F17_s N).bs x) = (F17_s N).t x Ret (fun y => some ((F17_s N).ret y)) := by kernel_rfl
theorem F17_pat (N : Nat) (a : List AV) (b : List (List AV)) (x : (F17_s N).X) (h : (F17_s N).pat a b = some x) : a = (F17_s N).args x ∧ b = (F17_s N).bs x := by
  dsimp only [F17_s] at h
  split at h
  · cases h; exact ⟨rfl, rfl⟩
  · cases h
noncomputable def F17_e (N : Nat) : Ent Tryd.prog := entOf (tabOf_ok Tryd.prog) (gam_ok _) mixed 17 Tryd.f17 Tryd.func17 rfl F17_an (lam N [(8, F17_l8 N)]) (by
    have e : actOf F17_an (Tryd.f17.body.getD .skip) 0 = [(8, nthLoop 8 (Tryd.f17.body.getD .skip))] := by kernel_rfl
    rw [e]
    intro p hp
    rcases List.mem_cons.1 hp with rfl | hp
    · exact F17_loop8 N
    cases hp) (F17_s N) (fun _ => ⟨rfl, rfl⟩) (F17_text N) (F17_pat N) (F17_parF N)
/-! ### seismonet/seismonetref17.Same (function 14) -/
def F14_an : Nat → Keep × Keep := anL [(8, ⟨[5], [], [], [(0, 1), (1, 1)], [], [], [], [], false⟩, ⟨[4], [], [], [], [], [], [], [], false⟩)]
noncomputable def F14_g (N : Nat) : GamK := gam (P := Tryd.prog) []
noncomputable def F14_l8 (N : Nat) : LSpec where
  X := (List (List AV)) × (List (List AV)) × Int
  Y := (Bool) ⊕ (Unit)
  p := fun s => match s.env.length, s.nin, s.at 0, s.at 1, s.at 5 with
    | 26, 0, (AV.list 1 a0 none), (AV.list 1 a1 none), (AV.v (.int .i64 a2)) => some (a0, a1, a2)
    | _, _, _, _, _ => none
  st := fun x => mkS 26 [(0, (AV.list 1 x.1 none)), (1, (AV.list 1 x.2.1 none)), (5, (AV.v (.int .i64 x.2.2)))] [] (F14_an 8).1.toks 0
  out := fun y => match y with
    | .inl y => (.ret, mkS 26 [(4, (AV.v (.bool y)))] [] (F14_an 8).2.toks 0)
    | .inr y => (.exit 0, mkS 26 [] [] (F14_an 8).2.toks 0)
  sp := fun y α k => match y with
    | .inl y => k (.ret, mkS 26 [(4, (AV.v (.bool y)))] [] (F14_an 8).2.toks 0)
    | .inr y => k (.exit 0, mkS 26 [] [] (F14_an 8).2.toks 0)
  spe := fun y α k => by rcases y with _ | _ <;> rfl
  b := fun x α kn ke => (match (decide (x.2.2 < (x.1.length : Int))) with | true => (if 0 ≤ x.2.2 then (match x.1[x.2.2.toNat]? with | some c1 => (match c1[0]? with | some x2 => (match x2 with | .v (.int q4 n3) => (if q4 = .i64 then (if 0 ≤ x.2.2 then (match x.2.1[x.2.2.toNat]? with | some c5 => (match c5[0]? with | some x6 => (match x6 with | .v (.int q8 n7) => (if q8 = .i64 then (match (n3 != n7) with | true => (ke (.inl false)) | false => (kn (x.1, x.2.1, (i64 (x.2.2 + 1))))) else none) | _ => none) | none => none) | none => none) else none) else none) | _ => none) | none => none) | none => none) else none) | false => (ke (.inr ())))
noncomputable abbrev F14_d8 (N : Nat) (x : (List (List AV)) × (List (List AV)) × Int) : Option ((Bool) ⊕ (Unit)) := (F14_l8 N).L N x
noncomputable def F14_s (N : Nat) : FSpec where
  X := (List (List AV)) × (List (List AV))
  Y := Bool
  ash := [[some 1], [some 1]]
  bsh := []
  S := ⟨[[none]], [], [], [], []⟩
  bm := false
  pat := fun a b => match a, b with
    | [(AV.list 1 a0 none), (AV.list 1 a1 none)], [] => some (a0, a1)
    | _, _ => none
  args := fun x => [(AV.list 1 x.1 none), (AV.list 1 x.2 none)]
  bs := fun x => []
  ret := fun y => ⟨(AV.v (.bool y)), [], none, [], [], []⟩
  t := fun x α k => (match ((x.1.length : Int) != (x.2.length : Int)) with | true => (k false) | false => (match F14_d8 N (x.1, x.2, 0) with | some y9 => (match y9 with | .inl z10 => (k z10) | .inr z11 => (k true)) | none => none))
noncomputable abbrev F14_d (N : Nat) (x : (List (List AV)) × (List (List AV))) : Option (Bool) := (F14_s N).d x
theorem F14_par8 (N : Nat) : Par (F14_l8 N).b := by
  intro x α β kn ke kn' ke' r r' h h1 h2
  revert h
  dsimp only [F14_l8]
  (repeat' (first | (with_reducible refine par_ite ?_ ?_) | (with_reducible refine par_both ?_ ?_) | split)) <;> intro h <;> first | exact h1 _ h | exact h2 _ h | (cases h; done)
theorem F14_body8 (N : Nat) (x : (F14_l8 N).X) (α : Type) (kn : AS → Option α) (ke : Out → Option α) : around (tabOf Tryd.prog) (F14_g N) F14_an (lam N [(8, F14_l8 N)]) 8 (bodyOf (nthLoop 8 (Tryd.f14.body.getD .skip))) ((F14_l8 N).st x) kn ke = (F14_l8 N).b x α (fun x' => kn ((F14_l8 N).st x')) (fun y => (F14_l8 N).sp y α ke) := by kernel_rfl
theorem F14_pat8 (N : Nat) (s : AS) (x : (F14_l8 N).X) (hc : s = canon (F14_an 8).1 s) (h : (F14_l8 N).p s = some x) : s = (F14_l8 N).st x := by
  dsimp only [F14_l8] at h
  split at h
  · cases h
    exact canon_mk hc ‹_› ‹_› rfl rfl rfl ⟨‹_›, ‹_›, ‹_›, trivial⟩ trivial
  · cases h
theorem F14_loop8 (N : Nat) : ∀ s o, s = canon (F14_an 8).1 s → (lam N [(8, F14_l8 N)]).v 8 s = some o → LoopSem Tryd.prog (nthLoop 8 (Tryd.f14.body.getD .skip)) s o :=
  loop_ok (tabOf_ok Tryd.prog) (gam_ok _) mixed F14_an N [(8, F14_l8 N)] 8 (bodyOf (nthLoop 8 (Tryd.f14.body.getD .skip))) (nthLoop 8 (Tryd.f14.body.getD .skip)) (by kernel_rfl) (by
    have e : actOf F14_an (bodyOf (nthLoop 8 (Tryd.f14.body.getD .skip))) (8 + 1) = [] := by kernel_rfl
    rw [e]
    intro p hp
    cases hp) (F14_l8 N) rfl (fun s x hc h => F14_pat8 N s x hc h) (fun x => rfl) (fun x α kn ke => (F14_body8 N x α kn ke).trans (congrArg ((F14_l8 N).b x α _) (funext fun y => (F14_l8 N).spe y α ke))) (F14_par8 N)
theorem F14_parF (N : Nat) : ParF (F14_s N).t := by
  intro x α β k k' r r' h h1
  revert h
  dsimp only [F14_s]
  (repeat' (first | (with_reducible refine par_ite ?_ ?_) | (with_reducible refine par_both ?_ ?_) | split)) <;> intro h <;> first | exact h1 _ h | (cases h; done)
theorem F14_text (N : Nat) (x : (F14_s N).X) : acall (tabOf Tryd.prog) (F14_g N) F14_an (lam N [(8, F14_l8 N)]) Tryd.f14 (F14_s N).S ((F14_s N).args x) ((F14_s N).bs x) = (F14_s N).t x Ret (fun y => some ((F14_s N).ret y)) := by kernel_rfl
theorem F14_pat (N : Nat) (a : List AV) (b : List (List AV)) (x : (F14_s N).X) (h : (F14_s N).pat a b = some x) : a = (F14_s N).args x ∧ b = (F14_s N).bs x := by
  dsimp only [F14_s] at h
  split at h
  · cases h; exact ⟨rfl, rfl⟩
  · cases h
noncomputable def F14_e (N : Nat) : Ent Tryd.prog := entOf (tabOf_ok Tryd.prog) (gam_ok _) mixed 14 Tryd.f14 Tryd.func14 rfl F14_an (lam N [(8, F14_l8 N)]) (by
    have e : actOf F14_an (Tryd.f14.body.getD .skip) 0 = [(8, nthLoop 8 (Tryd.f14.body.getD .skip))] := by kernel_rfl
    rw [e]
    intro p hp
    rcases List.mem_cons.1 hp with rfl | hp
    · exact F14_loop8 N
    cases hp) (F14_s N) (fun _ => ⟨rfl, rfl⟩) (F14_text N) (F14_pat N) (F14_parF N)
/-! ### seismonet/seismonetlaw17.sane (function 8) -/
def F8_an : Nat → Keep × Keep := anL []
noncomputable def F8_g (N : Nat) : GamK := gam (P := Tryd.prog) [F12_e N, F11_e N, F17_e N, F14_e N]
noncomputable def F8_s (N : Nat) : FSpec where
  X := Unit
  Y := Bool
  ash := []
  bsh := []
  S := ⟨[[none]], [], [], [], []⟩
  bm := false
  pat := fun a b => match a, b with
    | [], [] => some ()
    | _, _ => none
  args := fun x => []
  bs := fun x => []
  ret := fun y => ⟨(AV.v (.bool y)), [], none, [], [], []⟩
  t := fun x α k => (match F12_d N (⟨#[49, 49, 53, 50, 57, 50, 49, 53, 48, 52, 54, 48, 54, 56, 52, 54, 57, 55, 54]⟩ : ByteArray) with | some y1 => (match F11_d N ([[(AV.v (.int .i64 0))], [(AV.v (.int .i64 0))], [(AV.v (.int .i64 1))]]) with | some y2 => (match F17_d N 1073741824 with | some y3 => (match (y1.2 == 0) with | true => (match (y2.2 == 0) with | true => (match (y3.2 == 0) with | true => (match F14_d N (y1.1, [[(AV.v (.int .i64 0))], [(AV.v (.int .i64 0))], [(AV.v (.int .i64 1))]]) with | some y4 => (match y4 with | true => (match (y2.1.toList == (⟨#[49, 49, 53, 50, 57, 50, 49, 53, 48, 52, 54, 48, 54, 56, 52, 54, 57, 55, 54]⟩ : ByteArray).toList) with | true => (match F14_d N (y3.1, [[(AV.v (.int .i64 0))], [(AV.v (.int .i64 1))]]) with | some y5 => (k y5) | none => none) | false => (k false)) | false => (k false)) | none => none) | false => (k false)) | false => (k false)) | false => (k false)) | none => none) | none => none) | none => none)
noncomputable abbrev F8_d (N : Nat) (x : Unit) : Option (Bool) := (F8_s N).d x
theorem F8_parF (N : Nat) : ParF (F8_s N).t := by
  intro x α β k k' r r' h h1
  revert h
  dsimp only [F8_s]
  (repeat' (first | (with_reducible refine par_ite ?_ ?_) | (with_reducible refine par_both ?_ ?_) | split)) <;> intro h <;> first | exact h1 _ h | (cases h; done)
theorem F8_text (N : Nat) (x : (F8_s N).X) : acall (tabOf Tryd.prog) (F8_g N) F8_an (lam N []) Tryd.f8 (F8_s N).S ((F8_s N).args x) ((F8_s N).bs x) = (F8_s N).t x Ret (fun y => some ((F8_s N).ret y)) := by kernel_rfl
theorem F8_pat (N : Nat) (a : List AV) (b : List (List AV)) (x : (F8_s N).X) (h : (F8_s N).pat a b = some x) : a = (F8_s N).args x ∧ b = (F8_s N).bs x := by
  dsimp only [F8_s] at h
  split at h
  · cases h; exact ⟨rfl, rfl⟩
  · cases h
noncomputable def F8_e (N : Nat) : Ent Tryd.prog := entOf (tabOf_ok Tryd.prog) (gam_ok _) mixed 8 Tryd.f8 Tryd.func8 rfl F8_an (lam N []) (by
    have e : actOf F8_an (Tryd.f8.body.getD .skip) 0 = [] := by kernel_rfl
    rw [e]
    intro p hp
    cases hp) (F8_s N) (fun _ => ⟨rfl, rfl⟩) (F8_text N) (F8_pat N) (F8_parF N)
/-! ### seismonet/seismonetmade.Light (function 7) -/
def F7_an : Nat → Keep × Keep := anL []
noncomputable def F7_g (N : Nat) : GamK := gam (P := Tryd.prog) []
noncomputable def F7_s (N : Nat) : FSpec where
  X := (List (List AV))
  Y := Bool
  ash := [[some 1]]
  bsh := []
  S := ⟨[[none]], [], [], [], []⟩
  bm := false
  pat := fun a b => match a, b with
    | [(AV.list 1 a0 none)], [] => some a0
    | _, _ => none
  args := fun x => [(AV.list 1 x none)]
  bs := fun x => []
  ret := fun y => ⟨(AV.v (.bool y)), [], none, [], [], []⟩
  t := fun x α k => (k (decide ((x.length : Int) ≤ 500)))
noncomputable abbrev F7_d (N : Nat) (x : (List (List AV))) : Option (Bool) := (F7_s N).d x
theorem F7_parF (N : Nat) : ParF (F7_s N).t := by
  intro x α β k k' r r' h h1
  revert h
  dsimp only [F7_s]
  (repeat' (first | (with_reducible refine par_ite ?_ ?_) | (with_reducible refine par_both ?_ ?_) | split)) <;> intro h <;> first | exact h1 _ h | (cases h; done)
theorem F7_text (N : Nat) (x : (F7_s N).X) : acall (tabOf Tryd.prog) (F7_g N) F7_an (lam N []) Tryd.f7 (F7_s N).S ((F7_s N).args x) ((F7_s N).bs x) = (F7_s N).t x Ret (fun y => some ((F7_s N).ret y)) := by kernel_rfl
theorem F7_pat (N : Nat) (a : List AV) (b : List (List AV)) (x : (F7_s N).X) (h : (F7_s N).pat a b = some x) : a = (F7_s N).args x ∧ b = (F7_s N).bs x := by
  dsimp only [F7_s] at h
  split at h
  · cases h; exact ⟨rfl, rfl⟩
  · cases h
noncomputable def F7_e (N : Nat) : Ent Tryd.prog := entOf (tabOf_ok Tryd.prog) (gam_ok _) mixed 7 Tryd.f7 Tryd.func7 rfl F7_an (lam N []) (by
    have e : actOf F7_an (Tryd.f7.body.getD .skip) 0 = [] := by kernel_rfl
    rw [e]
    intro p hp
    cases hp) (F7_s N) (fun _ => ⟨rfl, rfl⟩) (F7_text N) (F7_pat N) (F7_parF N)
/-! ### seismonet/seismonetmade.Roll (function 9) -/
def F9_an : Nat → Keep × Keep := anL []
noncomputable def F9_g (N : Nat) : GamK := gam (P := Tryd.prog) []
noncomputable def F9_s (N : Nat) : FSpec where
  X := (List (List AV))
  Y := (List (List AV)) × Int
  ash := [[some 1]]
  bsh := []
  S := ⟨[[none]], [], [some 1, none], [], []⟩
  bm := false
  pat := fun a b => match a, b with
    | [(AV.list 1 a0 none)], [] => some a0
    | _, _ => none
  args := fun x => [(AV.list 1 x none)]
  bs := fun x => []
  ret := fun y => ⟨(AV.ptr 0 0), [], some [(AV.list 1 y.1 none), (AV.v (.int .i64 y.2))], [], [], []⟩
  t := fun x α k => (k (x, 0))
noncomputable abbrev F9_d (N : Nat) (x : (List (List AV))) : Option ((List (List AV)) × Int) := (F9_s N).d x
theorem F9_parF (N : Nat) : ParF (F9_s N).t := by
  intro x α β k k' r r' h h1
  revert h
  dsimp only [F9_s]
  (repeat' (first | (with_reducible refine par_ite ?_ ?_) | (with_reducible refine par_both ?_ ?_) | split)) <;> intro h <;> first | exact h1 _ h | (cases h; done)
theorem F9_text (N : Nat) (x : (F9_s N).X) : acall (tabOf Tryd.prog) (F9_g N) F9_an (lam N []) Tryd.f9 (F9_s N).S ((F9_s N).args x) ((F9_s N).bs x) = (F9_s N).t x Ret (fun y => some ((F9_s N).ret y)) := by kernel_rfl
theorem F9_pat (N : Nat) (a : List AV) (b : List (List AV)) (x : (F9_s N).X) (h : (F9_s N).pat a b = some x) : a = (F9_s N).args x ∧ b = (F9_s N).bs x := by
  dsimp only [F9_s] at h
  split at h
  · cases h; exact ⟨rfl, rfl⟩
  · cases h
noncomputable def F9_e (N : Nat) : Ent Tryd.prog := entOf (tabOf_ok Tryd.prog) (gam_ok _) mixed 9 Tryd.f9 Tryd.func9 rfl F9_an (lam N []) (by
    have e : actOf F9_an (Tryd.f9.body.getD .skip) 0 = [] := by kernel_rfl
    rw [e]
    intro p hp
    cases hp) (F9_s N) (fun _ => ⟨rfl, rfl⟩) (F9_text N) (F9_pat N) (F9_parF N)
/-! ### (*seismonet/seismonetmade.Dice).Next (function 27) -/
def F27_an : Nat → Keep × Keep := anL []
noncomputable def F27_g (N : Nat) : GamK := gam (P := Tryd.prog) []
noncomputable def F27_s (N : Nat) : FSpec where
  X := Int × (List (List AV)) × Int
  Y := Int × (List (List AV)) × Int
  ash := [[none], [none]]
  bsh := [[some 1, none]]
  S := ⟨[[none]], [[some 1, none]], [], [], []⟩
  bm := false
  pat := fun a b => match a, b with
    | [(AV.ptr 0 0), (AV.v (.int .i64 a0))], [[(AV.list 1 a1 none), (AV.v (.int .i64 a2))]] => some (a0, a1, a2)
    | _, _ => none
  args := fun x => [(AV.ptr 0 0), (AV.v (.int .i64 x.1))]
  bs := fun x => [[(AV.list 1 x.2.1 none), (AV.v (.int .i64 x.2.2))]]
  ret := fun y => ⟨(AV.v (.int .i64 y.1)), [[(AV.list 1 y.2.1 none), (AV.v (.int .i64 y.2.2))]], none, [], [], []⟩
  t := fun x α k => (match (decide (x.2.2 ≥ (x.2.1.length : Int))) with | true => (k (0, x.2.1, x.2.2)) | false => (match (decide (x.1 < 1)) with | true => (k (0, x.2.1, x.2.2)) | false => (if 0 ≤ x.2.2 then (match x.2.1[x.2.2.toNat]? with | some c1 => (match c1[0]? with | some x2 => (match x2 with | .v (.int q4 n3) => (if q4 = .i64 then (if x.1 = 0 then none else (match (decide ((n3.tmod x.1) < 0)) with | true => (k ((i64 ((n3.tmod x.1) + x.1)), x.2.1, (i64 (x.2.2 + 1)))) | false => (k ((n3.tmod x.1), x.2.1, (i64 (x.2.2 + 1)))))) else none) | _ => none) | none => none) | none => none) else none)))
noncomputable abbrev F27_d (N : Nat) (x : Int × (List (List AV)) × Int) : Option (Int × (List (List AV)) × Int) := (F27_s N).d x
theorem F27_parF (N : Nat) : ParF (F27_s N).t := by
  intro x α β k k' r r' h h1
  revert h
  dsimp only [F27_s]
  (repeat' (first | (with_reducible refine par_ite ?_ ?_) | (with_reducible refine par_both ?_ ?_) | split)) <;> intro h <;> first | exact h1 _ h | (cases h; done)
theorem F27_text (N : Nat) (x : (F27_s N).X) : acall (tabOf Tryd.prog) (F27_g N) F27_an (lam N []) Tryd.f27 (F27_s N).S ((F27_s N).args x) ((F27_s N).bs x) = (F27_s N).t x Ret (fun y => some ((F27_s N).ret y)) := by kernel_rfl
theorem F27_pat (N : Nat) (a : List AV) (b : List (List AV)) (x : (F27_s N).X) (h : (F27_s N).pat a b = some x) : a = (F27_s N).args x ∧ b = (F27_s N).bs x := by
  dsimp only [F27_s] at h
  split at h
  · cases h; exact ⟨rfl, rfl⟩
  · cases h
noncomputable def F27_e (N : Nat) : Ent Tryd.prog := entOf (tabOf_ok Tryd.prog) (gam_ok _) mixed 27 Tryd.f27 Tryd.func27 rfl F27_an (lam N []) (by
    have e : actOf F27_an (Tryd.f27.body.getD .skip) 0 = [] := by kernel_rfl
    rw [e]
    intro p hp
    cases hp) (F27_s N) (fun _ => ⟨rfl, rfl⟩) (F27_text N) (F27_pat N) (F27_parF N)
/-! ### (*seismonet/seismonetmade.Dice).Pick (function 28) -/
def F28_an : Nat → Keep × Keep := anL []
noncomputable def F28_g (N : Nat) : GamK := gam (P := Tryd.prog) [F27_e N]
noncomputable def F28_s (N : Nat) : FSpec where
  X := (List (List AV)) × (List (List AV)) × Int
  Y := Int × (List (List AV)) × Int
  ash := [[none], [some 1]]
  bsh := [[some 1, none]]
  S := ⟨[[none]], [[some 1, none]], [], [], []⟩
  bm := false
  pat := fun a b => match a, b with
    | [(AV.ptr 0 0), (AV.list 1 a0 none)], [[(AV.list 1 a1 none), (AV.v (.int .i64 a2))]] => some (a0, a1, a2)
    | _, _ => none
  args := fun x => [(AV.ptr 0 0), (AV.list 1 x.1 none)]
  bs := fun x => [[(AV.list 1 x.2.1 none), (AV.v (.int .i64 x.2.2))]]
  ret := fun y => ⟨(AV.v (.int .i64 y.1)), [[(AV.list 1 y.2.1 none), (AV.v (.int .i64 y.2.2))]], none, [], [], []⟩
  t := fun x α k => (match F27_d N ((x.1.length : Int), x.2.1, x.2.2) with | some y1 => (if 0 ≤ y1.1 then (match x.1[y1.1.toNat]? with | some c2 => (match c2[0]? with | some x3 => (match x3 with | .v (.int q5 n4) => (if q5 = .i64 then (k (n4, y1.2.1, y1.2.2)) else none) | _ => none) | none => none) | none => none) else none) | none => none)
noncomputable abbrev F28_d (N : Nat) (x : (List (List AV)) × (List (List AV)) × Int) : Option (Int × (List (List AV)) × Int) := (F28_s N).d x
theorem F28_parF (N : Nat) : ParF (F28_s N).t := by
  intro x α β k k' r r' h h1
  revert h
  dsimp only [F28_s]
  (repeat' (first | (with_reducible refine par_ite ?_ ?_) | (with_reducible refine par_both ?_ ?_) | split)) <;> intro h <;> first | exact h1 _ h | (cases h; done)
theorem F28_text (N : Nat) (x : (F28_s N).X) : acall (tabOf Tryd.prog) (F28_g N) F28_an (lam N []) Tryd.f28 (F28_s N).S ((F28_s N).args x) ((F28_s N).bs x) = (F28_s N).t x Ret (fun y => some ((F28_s N).ret y)) := by kernel_rfl
theorem F28_pat (N : Nat) (a : List AV) (b : List (List AV)) (x : (F28_s N).X) (h : (F28_s N).pat a b = some x) : a = (F28_s N).args x ∧ b = (F28_s N).bs x := by
  dsimp only [F28_s] at h
  split at h
  · cases h; exact ⟨rfl, rfl⟩
  · cases h
noncomputable def F28_e (N : Nat) : Ent Tryd.prog := entOf (tabOf_ok Tryd.prog) (gam_ok _) mixed 28 Tryd.f28 Tryd.func28 rfl F28_an (lam N []) (by
    have e : actOf F28_an (Tryd.f28.body.getD .skip) 0 = [] := by kernel_rfl
    rw [e]
    intro p hp
    cases hp) (F28_s N) (fun _ => ⟨rfl, rfl⟩) (F28_text N) (F28_pat N) (F28_parF N)
/-! ### (*seismonet/seismonetmade.Dice).Nat (function 10) -/
def F10_an : Nat → Keep × Keep := anL [(5, ⟨[0, 6], [(5, 1)], [0], [], [], [], [], [], false⟩, ⟨[], [(5, 1)], [0], [], [], [], [], [], false⟩), (13, ⟨[], [], [0], [(5, 1)], [], [], [], [], false⟩, ⟨[], [], [0], [(5, 1)], [], [], [], [], false⟩)]
noncomputable def F10_g (N : Nat) : GamK := gam (P := Tryd.prog) [F27_e N, F28_e N]
noncomputable def F10_l13 (N : Nat) : LSpec where
  X := (List (List AV)) × (List (List AV)) × Int
  Y := ((List (List AV)) × (List (List AV)) × Int)
  p := fun s => match s.env.length, s.nin, s.at 5, s.bx 0 with
    | 41, 1, (AV.list 1 a0 none), some [(AV.list 1 a1 none), (AV.v (.int .i64 a2))] => some (a0, a1, a2)
    | _, _, _, _ => none
  st := fun x => mkS 41 [(5, (AV.list 1 x.1 none))] [(0, [(AV.list 1 x.2.1 none), (AV.v (.int .i64 x.2.2))])] (F10_an 13).1.toks 1
  out := fun y => (.exit 2, mkS 41 [(5, (AV.list 1 y.1 none))] [(0, [(AV.list 1 y.2.1 none), (AV.v (.int .i64 y.2.2))])] (F10_an 13).2.toks 1)
  sp := fun y α k => k (.exit 2, mkS 41 [(5, (AV.list 1 y.1 none))] [(0, [(AV.list 1 y.2.1 none), (AV.v (.int .i64 y.2.2))])] (F10_an 13).2.toks 1)
  spe := fun y α k => rfl
  b := fun x α kn ke => (match (decide ((x.1.length : Int) > 0)) with | true => (if 0 ≤ (i64 ((x.1.length : Int) - 1)) then (match x.1[(i64 ((x.1.length : Int) - 1)).toNat]? with | some c11 => (match c11[0]? with | some x12 => (match x12 with | .v (.int q14 n13) => (if q14 = .i64 then (match (n13 == 0) with | true => (if 0 ≤ (i64 ((x.1.length : Int) - 1)) ∧ (i64 ((x.1.length : Int) - 1)) ≤ x.1.length then (kn ((x.1.take (i64 ((x.1.length : Int) - 1)).toNat), x.2.1, x.2.2)) else none) | false => (ke (x.1, x.2.1, x.2.2))) else none) | _ => none) | none => none) | none => none) else none) | false => (ke (x.1, x.2.1, x.2.2)))
noncomputable abbrev F10_d13 (N : Nat) (x : (List (List AV)) × (List (List AV)) × Int) : Option (((List (List AV)) × (List (List AV)) × Int)) := (F10_l13 N).L N x
noncomputable def F10_l5 (N : Nat) : LSpec where
  X := (List (List AV)) × Int × (List (List AV)) × Int
  Y := ((List (List AV)) × (List (List AV)) × Int)
  p := fun s => match s.env.length, s.nin, s.at 5, s.at 0, s.at 6, s.bx 0 with
    | 41, 1, (AV.list 1 a0 (some 1280000320)), (AV.ptr 0 0), (AV.v (.int .i64 a1)), some [(AV.list 1 a2 none), (AV.v (.int .i64 a3))] => some (a0, a1, a2, a3)
    | _, _, _, _, _, _ => none
  st := fun x => mkS 41 [(5, (AV.list 1 x.1 (some 1280000320))), (0, (AV.ptr 0 0)), (6, (AV.v (.int .i64 x.2.1)))] [(0, [(AV.list 1 x.2.2.1 none), (AV.v (.int .i64 x.2.2.2))])] (F10_an 5).1.toks 1
  out := fun y => (.exit 0, mkS 41 [(5, (AV.list 1 y.1 (some 1280000320)))] [(0, [(AV.list 1 y.2.1 none), (AV.v (.int .i64 y.2.2))])] (F10_an 5).2.toks 1)
  sp := fun y α k => k (.exit 0, mkS 41 [(5, (AV.list 1 y.1 (some 1280000320)))] [(0, [(AV.list 1 y.2.1 none), (AV.v (.int .i64 y.2.2))])] (F10_an 5).2.toks 1)
  spe := fun y α k => rfl
  b := fun x α kn ke => (match (decide (x.2.1 > 0)) with | true => (match F27_d N (1000, x.2.2.1, x.2.2.2) with | some y4 => (match F28_d N ([[(AV.v (.int .i64 0))], [(AV.v (.int .i64 1))], [(AV.v (.int .i64 1073741823))], [(AV.v (.int .i64 y4.1))], [(AV.v (.int .i64 536870912))]], y4.2.1, y4.2.2) with | some y5 => (if (x.1.length + [[(AV.v (.int .i64 y5.1))]].length) * 8 ≤ maxBytes then (kn ((x.1 ++ [[(AV.v (.int .i64 y5.1))]]), (i64 (x.2.1 - 1)), y5.2.1, y5.2.2)) else none) | none => none) | none => none) | false => (ke (x.1, x.2.2.1, x.2.2.2)))
noncomputable abbrev F10_d5 (N : Nat) (x : (List (List AV)) × Int × (List (List AV)) × Int) : Option (((List (List AV)) × (List (List AV)) × Int)) := (F10_l5 N).L N x
noncomputable def F10_s (N : Nat) : FSpec where
  X := Int × (List (List AV)) × Int
  Y := (List (List AV)) × (List (List AV)) × Int
  ash := [[none], [none]]
  bsh := [[some 1, none]]
  S := ⟨[[some 1]], [[some 1, none]], [], [], []⟩
  bm := false
  pat := fun a b => match a, b with
    | [(AV.ptr 0 0), (AV.v (.int .i64 a0))], [[(AV.list 1 a1 none), (AV.v (.int .i64 a2))]] => some (a0, a1, a2)
    | _, _ => none
  args := fun x => [(AV.ptr 0 0), (AV.v (.int .i64 x.1))]
  bs := fun x => [[(AV.list 1 x.2.1 none), (AV.v (.int .i64 x.2.2))]]
  ret := fun y => ⟨(AV.list 1 y.1 none), [[(AV.list 1 y.2.1 none), (AV.v (.int .i64 y.2.2))]], none, [], [], []⟩
  t := fun x α k => (match F27_d N ((i64 (x.1 + 1)), x.2.1, x.2.2) with | some y1 => (match F10_d5 N (([] : List (List AV)), y1.1, y1.2.1, y1.2.2) with | some y6 => (match F10_d13 N (y6.1, y6.2.1, y6.2.2) with | some y15 => (k (y15.1, y15.2.1, y15.2.2)) | none => none) | none => none) | none => none)
noncomputable abbrev F10_d (N : Nat) (x : Int × (List (List AV)) × Int) : Option ((List (List AV)) × (List (List AV)) × Int) := (F10_s N).d x
theorem F10_par13 (N : Nat) : Par (F10_l13 N).b := by
  intro x α β kn ke kn' ke' r r' h h1 h2
  revert h
  dsimp only [F10_l13]
  (repeat' (first | (with_reducible refine par_ite ?_ ?_) | (with_reducible refine par_both ?_ ?_) | split)) <;> intro h <;> first | exact h1 _ h | exact h2 _ h | (cases h; done)
theorem F10_body13 (N : Nat) (x : (F10_l13 N).X) (α : Type) (kn : AS → Option α) (ke : Out → Option α) : around (tabOf Tryd.prog) (F10_g N) F10_an (lam N [(5, F10_l5 N), (13, F10_l13 N)]) 13 (bodyOf (nthLoop 13 (Tryd.f10.body.getD .skip))) ((F10_l13 N).st x) kn ke = (F10_l13 N).b x α (fun x' => kn ((F10_l13 N).st x')) (fun y => (F10_l13 N).sp y α ke) := by kernel_rfl
theorem F10_pat13 (N : Nat) (s : AS) (x : (F10_l13 N).X) (hc : s = canon (F10_an 13).1 s) (h : (F10_l13 N).p s = some x) : s = (F10_l13 N).st x := by
  dsimp only [F10_l13] at h
  split at h
  · cases h
    exact canon_mk hc ‹_› ‹_› rfl rfl rfl ⟨‹_›, trivial⟩ ⟨‹_›, trivial⟩
  · cases h
theorem F10_loop13 (N : Nat) : ∀ s o, s = canon (F10_an 13).1 s → (lam N [(5, F10_l5 N), (13, F10_l13 N)]).v 13 s = some o → LoopSem Tryd.prog (nthLoop 13 (Tryd.f10.body.getD .skip)) s o :=
  loop_ok (tabOf_ok Tryd.prog) (gam_ok _) mixed F10_an N [(5, F10_l5 N), (13, F10_l13 N)] 13 (bodyOf (nthLoop 13 (Tryd.f10.body.getD .skip))) (nthLoop 13 (Tryd.f10.body.getD .skip)) (by kernel_rfl) (by
    have e : actOf F10_an (bodyOf (nthLoop 13 (Tryd.f10.body.getD .skip))) (13 + 1) = [] := by kernel_rfl
    rw [e]
    intro p hp
    cases hp) (F10_l13 N) rfl (fun s x hc h => F10_pat13 N s x hc h) (fun x => rfl) (fun x α kn ke => (F10_body13 N x α kn ke).trans (congrArg ((F10_l13 N).b x α _) (funext fun y => (F10_l13 N).spe y α ke))) (F10_par13 N)
theorem F10_par5 (N : Nat) : Par (F10_l5 N).b := by
  intro x α β kn ke kn' ke' r r' h h1 h2
  revert h
  dsimp only [F10_l5]
  (repeat' (first | (with_reducible refine par_ite ?_ ?_) | (with_reducible refine par_both ?_ ?_) | split)) <;> intro h <;> first | exact h1 _ h | exact h2 _ h | (cases h; done)
theorem F10_body5 (N : Nat) (x : (F10_l5 N).X) (α : Type) (kn : AS → Option α) (ke : Out → Option α) : around (tabOf Tryd.prog) (F10_g N) F10_an (lam N [(5, F10_l5 N), (13, F10_l13 N)]) 5 (bodyOf (nthLoop 5 (Tryd.f10.body.getD .skip))) ((F10_l5 N).st x) kn ke = (F10_l5 N).b x α (fun x' => kn ((F10_l5 N).st x')) (fun y => (F10_l5 N).sp y α ke) := by kernel_rfl
theorem F10_pat5 (N : Nat) (s : AS) (x : (F10_l5 N).X) (hc : s = canon (F10_an 5).1 s) (h : (F10_l5 N).p s = some x) : s = (F10_l5 N).st x := by
  dsimp only [F10_l5] at h
  split at h
  · cases h
    exact canon_mk hc ‹_› ‹_› rfl rfl rfl ⟨‹_›, ‹_›, ‹_›, trivial⟩ ⟨‹_›, trivial⟩
  · cases h
theorem F10_loop5 (N : Nat) : ∀ s o, s = canon (F10_an 5).1 s → (lam N [(5, F10_l5 N), (13, F10_l13 N)]).v 5 s = some o → LoopSem Tryd.prog (nthLoop 5 (Tryd.f10.body.getD .skip)) s o :=
  loop_ok (tabOf_ok Tryd.prog) (gam_ok _) mixed F10_an N [(5, F10_l5 N), (13, F10_l13 N)] 5 (bodyOf (nthLoop 5 (Tryd.f10.body.getD .skip))) (nthLoop 5 (Tryd.f10.body.getD .skip)) (by kernel_rfl) (by
    have e : actOf F10_an (bodyOf (nthLoop 5 (Tryd.f10.body.getD .skip))) (5 + 1) = [] := by kernel_rfl
    rw [e]
    intro p hp
    cases hp) (F10_l5 N) rfl (fun s x hc h => F10_pat5 N s x hc h) (fun x => rfl) (fun x α kn ke => (F10_body5 N x α kn ke).trans (congrArg ((F10_l5 N).b x α _) (funext fun y => (F10_l5 N).spe y α ke))) (F10_par5 N)
theorem F10_parF (N : Nat) : ParF (F10_s N).t := by
  intro x α β k k' r r' h h1
  revert h
  dsimp only [F10_s]
  (repeat' (first | (with_reducible refine par_ite ?_ ?_) | (with_reducible refine par_both ?_ ?_) | split)) <;> intro h <;> first | exact h1 _ h | (cases h; done)
theorem F10_text (N : Nat) (x : (F10_s N).X) : acall (tabOf Tryd.prog) (F10_g N) F10_an (lam N [(5, F10_l5 N), (13, F10_l13 N)]) Tryd.f10 (F10_s N).S ((F10_s N).args x) ((F10_s N).bs x) = (F10_s N).t x Ret (fun y => some ((F10_s N).ret y)) := by kernel_rfl
theorem F10_pat (N : Nat) (a : List AV) (b : List (List AV)) (x : (F10_s N).X) (h : (F10_s N).pat a b = some x) : a = (F10_s N).args x ∧ b = (F10_s N).bs x := by
  dsimp only [F10_s] at h
  split at h
  · cases h; exact ⟨rfl, rfl⟩
  · cases h
noncomputable def F10_e (N : Nat) : Ent Tryd.prog := entOf (tabOf_ok Tryd.prog) (gam_ok _) mixed 10 Tryd.f10 Tryd.func10 rfl F10_an (lam N [(5, F10_l5 N), (13, F10_l13 N)]) (by
    have e : actOf F10_an (Tryd.f10.body.getD .skip) 0 = [(5, nthLoop 5 (Tryd.f10.body.getD .skip)), (13, nthLoop 13 (Tryd.f10.body.getD .skip))] := by kernel_rfl
    rw [e]
    intro p hp
    rcases List.mem_cons.1 hp with rfl | hp
    · exact F10_loop5 N
    rcases List.mem_cons.1 hp with rfl | hp
    · exact F10_loop13 N
    cases hp) (F10_s N) (fun _ => ⟨rfl, rfl⟩) (F10_text N) (F10_pat N) (F10_parF N)
/-! ### seismonet/nat.both (function 37) -/
def F37_an : Nat → Keep × Keep := anL []
noncomputable def F37_g (N : Nat) : GamK := gam (P := Tryd.prog) [F29_e N]
noncomputable def F37_s (N : Nat) : FSpec where
  X := (List (List AV)) × (List (List AV))
  Y := Bool
  ash := [[some 1], [some 1]]
  bsh := []
  S := ⟨[[none]], [], [], [], []⟩
  bm := false
  pat := fun a b => match a, b with
    | [(AV.list 1 a0 none), (AV.list 1 a1 none)], [] => some (a0, a1)
    | _, _ => none
  args := fun x => [(AV.list 1 x.1 none), (AV.list 1 x.2 none)]
  bs := fun x => []
  ret := fun y => ⟨(AV.v (.bool y)), [], none, [], [], []⟩
  t := fun x α k => (match F29_d N x.1 with | some y1 => (match y1 with | true => (match F29_d N x.2 with | some y2 => (k y2) | none => none) | false => (k false)) | none => none)
noncomputable abbrev F37_d (N : Nat) (x : (List (List AV)) × (List (List AV))) : Option (Bool) := (F37_s N).d x
theorem F37_parF (N : Nat) : ParF (F37_s N).t := by
  intro x α β k k' r r' h h1
  revert h
  dsimp only [F37_s]
  (repeat' (first | (with_reducible refine par_ite ?_ ?_) | (with_reducible refine par_both ?_ ?_) | split)) <;> intro h <;> first | exact h1 _ h | (cases h; done)
theorem F37_text (N : Nat) (x : (F37_s N).X) : acall (tabOf Tryd.prog) (F37_g N) F37_an (lam N []) Tryd.f37 (F37_s N).S ((F37_s N).args x) ((F37_s N).bs x) = (F37_s N).t x Ret (fun y => some ((F37_s N).ret y)) := by kernel_rfl
theorem F37_pat (N : Nat) (a : List AV) (b : List (List AV)) (x : (F37_s N).X) (h : (F37_s N).pat a b = some x) : a = (F37_s N).args x ∧ b = (F37_s N).bs x := by
  dsimp only [F37_s] at h
  split at h
  · cases h; exact ⟨rfl, rfl⟩
  · cases h
noncomputable def F37_e (N : Nat) : Ent Tryd.prog := entOf (tabOf_ok Tryd.prog) (gam_ok _) mixed 37 Tryd.f37 Tryd.func37 rfl F37_an (lam N []) (by
    have e : actOf F37_an (Tryd.f37.body.getD .skip) 0 = [] := by kernel_rfl
    rw [e]
    intro p hp
    cases hp) (F37_s N) (fun _ => ⟨rfl, rfl⟩) (F37_text N) (F37_pat N) (F37_parF N)
/-! ### cmp.isNaN[int] (function 74) -/
def F74_an : Nat → Keep × Keep := anL []
noncomputable def F74_g (N : Nat) : GamK := gam (P := Tryd.prog) []
noncomputable def F74_s (N : Nat) : FSpec where
  X := Int
  Y := Bool
  ash := [[none]]
  bsh := []
  S := ⟨[[none]], [], [], [], []⟩
  bm := false
  pat := fun a b => match a, b with
    | [(AV.v (.int .i64 a0))], [] => some a0
    | _, _ => none
  args := fun x => [(AV.v (.int .i64 x))]
  bs := fun x => []
  ret := fun y => ⟨(AV.v (.bool y)), [], none, [], [], []⟩
  t := fun x α k => (k (x != x))
noncomputable abbrev F74_d (N : Nat) (x : Int) : Option (Bool) := (F74_s N).d x
theorem F74_parF (N : Nat) : ParF (F74_s N).t := by
  intro x α β k k' r r' h h1
  revert h
  dsimp only [F74_s]
  (repeat' (first | (with_reducible refine par_ite ?_ ?_) | (with_reducible refine par_both ?_ ?_) | split)) <;> intro h <;> first | exact h1 _ h | (cases h; done)
theorem F74_text (N : Nat) (x : (F74_s N).X) : acall (tabOf Tryd.prog) (F74_g N) F74_an (lam N []) Tryd.f74 (F74_s N).S ((F74_s N).args x) ((F74_s N).bs x) = (F74_s N).t x Ret (fun y => some ((F74_s N).ret y)) := by kernel_rfl
theorem F74_pat (N : Nat) (a : List AV) (b : List (List AV)) (x : (F74_s N).X) (h : (F74_s N).pat a b = some x) : a = (F74_s N).args x ∧ b = (F74_s N).bs x := by
  dsimp only [F74_s] at h
  split at h
  · cases h; exact ⟨rfl, rfl⟩
  · cases h
noncomputable def F74_e (N : Nat) : Ent Tryd.prog := entOf (tabOf_ok Tryd.prog) (gam_ok _) mixed 74 Tryd.f74 Tryd.func74 rfl F74_an (lam N []) (by
    have e : actOf F74_an (Tryd.f74.body.getD .skip) 0 = [] := by kernel_rfl
    rw [e]
    intro p hp
    cases hp) (F74_s N) (fun _ => ⟨rfl, rfl⟩) (F74_text N) (F74_pat N) (F74_parF N)
/-! ### cmp.Compare[int] (function 61) -/
def F61_an : Nat → Keep × Keep := anL []
noncomputable def F61_g (N : Nat) : GamK := gam (P := Tryd.prog) [F74_e N]
noncomputable def F61_s (N : Nat) : FSpec where
  X := Int × Int
  Y := Int
  ash := [[none], [none]]
  bsh := []
  S := ⟨[[none]], [], [], [], []⟩
  bm := false
  pat := fun a b => match a, b with
    | [(AV.v (.int .i64 a0)), (AV.v (.int .i64 a1))], [] => some (a0, a1)
    | _, _ => none
  args := fun x => [(AV.v (.int .i64 x.1)), (AV.v (.int .i64 x.2))]
  bs := fun x => []
  ret := fun y => ⟨(AV.v (.int .i64 y)), [], none, [], [], []⟩
  t := fun x α k => (match F74_d N x.1 with | some y1 => (match F74_d N x.2 with | some y2 => (match y1 with | true => (match y2 with | true => (k 0) | false => (k (-1))) | false => (match y2 with | true => (k 1) | false => (match (decide (x.1 < x.2)) with | true => (k (-1)) | false => (match (decide (x.1 > x.2)) with | true => (k 1) | false => (k 0))))) | none => none) | none => none)
noncomputable abbrev F61_d (N : Nat) (x : Int × Int) : Option (Int) := (F61_s N).d x
theorem F61_parF (N : Nat) : ParF (F61_s N).t := by
  intro x α β k k' r r' h h1
  revert h
  dsimp only [F61_s]
  (repeat' (first | (with_reducible refine par_ite ?_ ?_) | (with_reducible refine par_both ?_ ?_) | split)) <;> intro h <;> first | exact h1 _ h | (cases h; done)
theorem F61_text (N : Nat) (x : (F61_s N).X) : acall (tabOf Tryd.prog) (F61_g N) F61_an (lam N []) Tryd.f61 (F61_s N).S ((F61_s N).args x) ((F61_s N).bs x) = (F61_s N).t x Ret (fun y => some ((F61_s N).ret y)) := by kernel_rfl
theorem F61_pat (N : Nat) (a : List AV) (b : List (List AV)) (x : (F61_s N).X) (h : (F61_s N).pat a b = some x) : a = (F61_s N).args x ∧ b = (F61_s N).bs x := by
  dsimp only [F61_s] at h
  split at h
  · cases h; exact ⟨rfl, rfl⟩
  · cases h
noncomputable def F61_e (N : Nat) : Ent Tryd.prog := entOf (tabOf_ok Tryd.prog) (gam_ok _) mixed 61 Tryd.f61 Tryd.func61 rfl F61_an (lam N []) (by
    have e : actOf F61_an (Tryd.f61.body.getD .skip) 0 = [] := by kernel_rfl
    rw [e]
    intro p hp
    cases hp) (F61_s N) (fun _ => ⟨rfl, rfl⟩) (F61_text N) (F61_pat N) (F61_parF N)
/-! ### seismonet/nat.compare (function 38) -/
def F38_an : Nat → Keep × Keep := anL [(8, ⟨[5], [], [], [(0, 1), (1, 1)], [], [], [], [], false⟩, ⟨[4], [], [], [], [], [], [], [], false⟩)]
noncomputable def F38_g (N : Nat) : GamK := gam (P := Tryd.prog) [F61_e N]
noncomputable def F38_l8 (N : Nat) : LSpec where
  X := (List (List AV)) × (List (List AV)) × Int
  Y := (Int) ⊕ (Unit)
  p := fun s => match s.env.length, s.nin, s.at 0, s.at 1, s.at 5 with
    | 41, 0, (AV.list 1 a0 none), (AV.list 1 a1 none), (AV.v (.int .i64 a2)) => some (a0, a1, a2)
    | _, _, _, _, _ => none
  st := fun x => mkS 41 [(0, (AV.list 1 x.1 none)), (1, (AV.list 1 x.2.1 none)), (5, (AV.v (.int .i64 x.2.2)))] [] (F38_an 8).1.toks 0
  out := fun y => match y with
    | .inl y => (.ret, mkS 41 [(4, (AV.v (.int .i64 y)))] [] (F38_an 8).2.toks 0)
    | .inr y => (.exit 0, mkS 41 [] [] (F38_an 8).2.toks 0)
  sp := fun y α k => match y with
    | .inl y => k (.ret, mkS 41 [(4, (AV.v (.int .i64 y)))] [] (F38_an 8).2.toks 0)
    | .inr y => k (.exit 0, mkS 41 [] [] (F38_an 8).2.toks 0)
  spe := fun y α k => by rcases y with _ | _ <;> rfl
  b := fun x α kn ke => (match (decide (x.2.2 ≥ 0)) with | true => (if 0 ≤ x.2.2 then (match x.1[x.2.2.toNat]? with | some c2 => (match c2[0]? with | some x3 => (match x3 with | .v (.int q5 n4) => (if q5 = .i64 then (if 0 ≤ x.2.2 then (match x.2.1[x.2.2.toNat]? with | some c6 => (match c6[0]? with | some x7 => (match x7 with | .v (.int q9 n8) => (if q9 = .i64 then (match (n4 != n8) with | true => (if 0 ≤ x.2.2 then (match x.1[x.2.2.toNat]? with | some c10 => (match c10[0]? with | some x11 => (match x11 with | .v (.int q13 n12) => (if q13 = .i64 then (if 0 ≤ x.2.2 then (match x.2.1[x.2.2.toNat]? with | some c14 => (match c14[0]? with | some x15 => (match x15 with | .v (.int q17 n16) => (if q17 = .i64 then (match F61_d N (n12, n16) with | some y18 => (ke (.inl y18)) | none => none) else none) | _ => none) | none => none) | none => none) else none) else none) | _ => none) | none => none) | none => none) else none) | false => (kn (x.1, x.2.1, (i64 (x.2.2 - 1))))) else none) | _ => none) | none => none) | none => none) else none) else none) | _ => none) | none => none) | none => none) else none) | false => (ke (.inr ())))
noncomputable abbrev F38_d8 (N : Nat) (x : (List (List AV)) × (List (List AV)) × Int) : Option ((Int) ⊕ (Unit)) := (F38_l8 N).L N x
noncomputable def F38_s (N : Nat) : FSpec where
  X := (List (List AV)) × (List (List AV))
  Y := Int
  ash := [[some 1], [some 1]]
  bsh := []
  S := ⟨[[none]], [], [], [], []⟩
  bm := false
  pat := fun a b => match a, b with
    | [(AV.list 1 a0 none), (AV.list 1 a1 none)], [] => some (a0, a1)
    | _, _ => none
  args := fun x => [(AV.list 1 x.1 none), (AV.list 1 x.2 none)]
  bs := fun x => []
  ret := fun y => ⟨(AV.v (.int .i64 y)), [], none, [], [], []⟩
  t := fun x α k => (match ((x.1.length : Int) != (x.2.length : Int)) with | true => (match F61_d N ((x.1.length : Int), (x.2.length : Int)) with | some y1 => (k y1) | none => none) | false => (match F38_d8 N (x.1, x.2, (i64 ((x.1.length : Int) - 1))) with | some y19 => (match y19 with | .inl z20 => (k z20) | .inr z21 => (k 0)) | none => none))
noncomputable abbrev F38_d (N : Nat) (x : (List (List AV)) × (List (List AV))) : Option (Int) := (F38_s N).d x
theorem F38_par8 (N : Nat) : Par (F38_l8 N).b := by
  intro x α β kn ke kn' ke' r r' h h1 h2
  revert h
  dsimp only [F38_l8]
  (repeat' (first | (with_reducible refine par_ite ?_ ?_) | (with_reducible refine par_both ?_ ?_) | split)) <;> intro h <;> first | exact h1 _ h | exact h2 _ h | (cases h; done)
theorem F38_body8 (N : Nat) (x : (F38_l8 N).X) (α : Type) (kn : AS → Option α) (ke : Out → Option α) : around (tabOf Tryd.prog) (F38_g N) F38_an (lam N [(8, F38_l8 N)]) 8 (bodyOf (nthLoop 8 (Tryd.f38.body.getD .skip))) ((F38_l8 N).st x) kn ke = (F38_l8 N).b x α (fun x' => kn ((F38_l8 N).st x')) (fun y => (F38_l8 N).sp y α ke) := by kernel_rfl
theorem F38_pat8 (N : Nat) (s : AS) (x : (F38_l8 N).X) (hc : s = canon (F38_an 8).1 s) (h : (F38_l8 N).p s = some x) : s = (F38_l8 N).st x := by
  dsimp only [F38_l8] at h
  split at h
  · cases h
    exact canon_mk hc ‹_› ‹_› rfl rfl rfl ⟨‹_›, ‹_›, ‹_›, trivial⟩ trivial
  · cases h
theorem F38_loop8 (N : Nat) : ∀ s o, s = canon (F38_an 8).1 s → (lam N [(8, F38_l8 N)]).v 8 s = some o → LoopSem Tryd.prog (nthLoop 8 (Tryd.f38.body.getD .skip)) s o :=
  loop_ok (tabOf_ok Tryd.prog) (gam_ok _) mixed F38_an N [(8, F38_l8 N)] 8 (bodyOf (nthLoop 8 (Tryd.f38.body.getD .skip))) (nthLoop 8 (Tryd.f38.body.getD .skip)) (by kernel_rfl) (by
    have e : actOf F38_an (bodyOf (nthLoop 8 (Tryd.f38.body.getD .skip))) (8 + 1) = [] := by kernel_rfl
    rw [e]
    intro p hp
    cases hp) (F38_l8 N) rfl (fun s x hc h => F38_pat8 N s x hc h) (fun x => rfl) (fun x α kn ke => (F38_body8 N x α kn ke).trans (congrArg ((F38_l8 N).b x α _) (funext fun y => (F38_l8 N).spe y α ke))) (F38_par8 N)
theorem F38_parF (N : Nat) : ParF (F38_s N).t := by
  intro x α β k k' r r' h h1
  revert h
  dsimp only [F38_s]
  (repeat' (first | (with_reducible refine par_ite ?_ ?_) | (with_reducible refine par_both ?_ ?_) | split)) <;> intro h <;> first | exact h1 _ h | (cases h; done)
theorem F38_text (N : Nat) (x : (F38_s N).X) : acall (tabOf Tryd.prog) (F38_g N) F38_an (lam N [(8, F38_l8 N)]) Tryd.f38 (F38_s N).S ((F38_s N).args x) ((F38_s N).bs x) = (F38_s N).t x Ret (fun y => some ((F38_s N).ret y)) := by kernel_rfl
theorem F38_pat (N : Nat) (a : List AV) (b : List (List AV)) (x : (F38_s N).X) (h : (F38_s N).pat a b = some x) : a = (F38_s N).args x ∧ b = (F38_s N).bs x := by
  dsimp only [F38_s] at h
  split at h
  · cases h; exact ⟨rfl, rfl⟩
  · cases h
noncomputable def F38_e (N : Nat) : Ent Tryd.prog := entOf (tabOf_ok Tryd.prog) (gam_ok _) mixed 38 Tryd.f38 Tryd.func38 rfl F38_an (lam N [(8, F38_l8 N)]) (by
    have e : actOf F38_an (Tryd.f38.body.getD .skip) 0 = [(8, nthLoop 8 (Tryd.f38.body.getD .skip))] := by kernel_rfl
    rw [e]
    intro p hp
    rcases List.mem_cons.1 hp with rfl | hp
    · exact F38_loop8 N
    cases hp) (F38_s N) (fun _ => ⟨rfl, rfl⟩) (F38_text N) (F38_pat N) (F38_parF N)
/-! ### seismonet/nat.Compare (function 13) -/
def F13_an : Nat → Keep × Keep := anL []
noncomputable def F13_g (N : Nat) : GamK := gam (P := Tryd.prog) [F37_e N, F38_e N]
noncomputable def F13_s (N : Nat) : FSpec where
  X := (List (List AV)) × (List (List AV))
  Y := Int
  ash := [[some 1], [some 1]]
  bsh := []
  S := ⟨[[none]], [], [], [], []⟩
  bm := false
  pat := fun a b => match a, b with
    | [(AV.list 1 a0 none), (AV.list 1 a1 none)], [] => some (a0, a1)
    | _, _ => none
  args := fun x => [(AV.list 1 x.1 none), (AV.list 1 x.2 none)]
  bs := fun x => []
  ret := fun y => ⟨(AV.v (.int .i64 y)), [], none, [], [], []⟩
  t := fun x α k => (match F37_d N (x.1, x.2) with | some y1 => (match (!y1) with | true => (k 0) | false => (match F38_d N (x.1, x.2) with | some y2 => (k y2) | none => none)) | none => none)
noncomputable abbrev F13_d (N : Nat) (x : (List (List AV)) × (List (List AV))) : Option (Int) := (F13_s N).d x
theorem F13_parF (N : Nat) : ParF (F13_s N).t := by
  intro x α β k k' r r' h h1
  revert h
  dsimp only [F13_s]
  (repeat' (first | (with_reducible refine par_ite ?_ ?_) | (with_reducible refine par_both ?_ ?_) | split)) <;> intro h <;> first | exact h1 _ h | (cases h; done)
theorem F13_text (N : Nat) (x : (F13_s N).X) : acall (tabOf Tryd.prog) (F13_g N) F13_an (lam N []) Tryd.f13 (F13_s N).S ((F13_s N).args x) ((F13_s N).bs x) = (F13_s N).t x Ret (fun y => some ((F13_s N).ret y)) := by kernel_rfl
theorem F13_pat (N : Nat) (a : List AV) (b : List (List AV)) (x : (F13_s N).X) (h : (F13_s N).pat a b = some x) : a = (F13_s N).args x ∧ b = (F13_s N).bs x := by
  dsimp only [F13_s] at h
  split at h
  · cases h; exact ⟨rfl, rfl⟩
  · cases h
noncomputable def F13_e (N : Nat) : Ent Tryd.prog := entOf (tabOf_ok Tryd.prog) (gam_ok _) mixed 13 Tryd.f13 Tryd.func13 rfl F13_an (lam N []) (by
    have e : actOf F13_an (Tryd.f13.body.getD .skip) 0 = [] := by kernel_rfl
    rw [e]
    intro p hp
    cases hp) (F13_s N) (fun _ => ⟨rfl, rfl⟩) (F13_text N) (F13_pat N) (F13_parF N)
/-! ### seismonet/seismonetlaw17.NatTexts (function 3) -/
def F3_an : Nat → Keep × Keep := anL []
noncomputable def F3_g (N : Nat) : GamK := gam (P := Tryd.prog) [F7_e N, F8_e N, F9_e N, F10_e N, F11_e N, F12_e N, F13_e N, F14_e N]
noncomputable def F3_s (N : Nat) : FSpec where
  X := (List (List AV))
  Y := Bool
  ash := [[some 1]]
  bsh := []
  S := ⟨[[none]], [], [], [], []⟩
  bm := false
  pat := fun a b => match a, b with
    | [(AV.list 1 a0 none)], [] => some a0
    | _, _ => none
  args := fun x => [(AV.list 1 x none)]
  bs := fun x => []
  ret := fun y => ⟨(AV.v (.bool y)), [], none, [], [], []⟩
  t := fun x α k => (match F7_d N x with | some y1 => (match (!y1) with | true => (match F8_d N () with | some y2 => (k y2) | none => none) | false => (match F9_d N x with | some y3 => (match F10_d N (8, y3.1, y3.2) with | some y4 => (match F10_d N (8, y4.2.1, y4.2.2) with | some y5 => (match F11_d N y4.1 with | some y6 => (match F11_d N y5.1 with | some y7 => (match F12_d N y6.1 with | some y8 => (match F13_d N (y4.1, y5.1) with | some y9 => (match (y6.2 != 0) with | true => (k false) | false => (match (y7.2 != 0) with | true => (k false) | false => (match (y8.2 != 0) with | true => (k false) | false => (match F14_d N (y8.1, y4.1) with | some y10 => (match (!y10) with | true => (k false) | false => (match (y6.1.toList == (⟨#[]⟩ : ByteArray).toList) with | true => (k false) | false => (match (decide ((y6.1.size : Int) > 1)) with | true => (if 0 ≤ (0 : Int) then (match y6.1[(0 : Int).toNat]? with | some c11 => (match ((c11.toNat : Int) == 48) with | true => (k false) | false => (match ((y6.1.size : Int) != (y7.1.size : Int)) with | true => (match ((decide (y9 < 0)) == (decide ((y6.1.size : Int) < (y7.1.size : Int)))) with | true => (match F8_d N () with | some y12 => (k y12) | none => none) | false => (k false)) | false => (match ((decide (y9 < 0)) == (Go.Op.bytesLess y6.1.toList y7.1.toList)) with | true => (match ((y9 == 0) == (y6.1.toList == y7.1.toList)) with | true => (match F8_d N () with | some y13 => (k y13) | none => none) | false => (k false)) | false => (k false)))) | none => none) else none) | false => (match ((y6.1.size : Int) != (y7.1.size : Int)) with | true => (match ((decide (y9 < 0)) == (decide ((y6.1.size : Int) < (y7.1.size : Int)))) with | true => (match F8_d N () with | some y14 => (k y14) | none => none) | false => (k false)) | false => (match ((decide (y9 < 0)) == (Go.Op.bytesLess y6.1.toList y7.1.toList)) with | true => (match ((y9 == 0) == (y6.1.toList == y7.1.toList)) with | true => (match F8_d N () with | some y15 => (k y15) | none => none) | false => (k false)) | false => (k false)))))) | none => none)))) | none => none) | none => none) | none => none) | none => none) | none => none) | none => none) | none => none)) | none => none)
noncomputable abbrev F3_d (N : Nat) (x : (List (List AV))) : Option (Bool) := (F3_s N).d x
theorem F3_parF (N : Nat) : ParF (F3_s N).t := by
  intro x α β k k' r r' h h1
  revert h
  dsimp only [F3_s]
  (repeat' (first | (with_reducible refine par_ite ?_ ?_) | (with_reducible refine par_both ?_ ?_) | split)) <;> intro h <;> first | exact h1 _ h | (cases h; done)
theorem F3_text (N : Nat) (x : (F3_s N).X) : acall (tabOf Tryd.prog) (F3_g N) F3_an (lam N []) Tryd.f3 (F3_s N).S ((F3_s N).args x) ((F3_s N).bs x) = (F3_s N).t x Ret (fun y => some ((F3_s N).ret y)) := by kernel_rfl
theorem F3_pat (N : Nat) (a : List AV) (b : List (List AV)) (x : (F3_s N).X) (h : (F3_s N).pat a b = some x) : a = (F3_s N).args x ∧ b = (F3_s N).bs x := by
  dsimp only [F3_s] at h
  split at h
  · cases h; exact ⟨rfl, rfl⟩
  · cases h
noncomputable def F3_e (N : Nat) : Ent Tryd.prog := entOf (tabOf_ok Tryd.prog) (gam_ok _) mixed 3 Tryd.f3 Tryd.func3 rfl F3_an (lam N []) (by
    have e : actOf F3_an (Tryd.f3.body.getD .skip) 0 = [] := by kernel_rfl
    rw [e]
    intro p hp
    cases hp) (F3_s N) (fun _ => ⟨rfl, rfl⟩) (F3_text N) (F3_pat N) (F3_parF N)
end Go.Proofs.YtlpebecbipjoaaaDoor
