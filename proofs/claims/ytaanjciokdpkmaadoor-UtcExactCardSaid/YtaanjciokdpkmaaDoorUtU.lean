/- Functions without memory. (written by sx.py) -/
import Derived.Test.YtaanjciokdpkmaaDoorUtT
namespace Go.Proofs.YtaanjciokdpkmaaDoor
open Go.RowKit
set_option linter.unusedVariables false
set_option linter.unusedSimpArgs false
set_option linter.unnecessarySimpa false
set_option maxRecDepth 4000
/-! ### seismonet/seismonetref01.In (function 22) -/
def F22_an : Nat → Keep × Keep := anL []
noncomputable def F22_g (N : Nat) : GamK := gam (P := Tryd.prog) []
noncomputable def F22_s (N : Nat) : FSpec where
  X := Int × Int × Int
  Y := Bool
  ash := [[none], [none], [none]]
  bsh := []
  S := ⟨[[none]], [], [], [], []⟩
  bm := false
  pat := fun a b => match a, b with
    | [(AV.v (.int .i64 a0)), (AV.v (.int .i64 a1)), (AV.v (.int .i64 a2))], [] => some (a0, a1, a2)
    | _, _ => none
  args := fun x => [(AV.v (.int .i64 x.1)), (AV.v (.int .i64 x.2.1)), (AV.v (.int .i64 x.2.2))]
  bs := fun x => []
  ret := fun y => ⟨(AV.v (.bool y)), [], none, [], [], []⟩
  t := fun x α k => (match (decide (x.1 ≥ x.2.1)) with | true => (k (decide (x.1 ≤ x.2.2))) | false => (k false))
noncomputable abbrev F22_d (N : Nat) (x : Int × Int × Int) : Option (Bool) := (F22_s N).d x
theorem F22_parF (N : Nat) : ParF (F22_s N).t := by
  intro x α β k k' r r' h h1
  revert h
  dsimp only [F22_s]
  (repeat' (first | (with_reducible refine par_ite ?_ ?_) | (with_reducible refine par_both ?_ ?_) | split)) <;> intro h <;> first | exact h1 _ h | (cases h; done)
theorem F22_text (N : Nat) (x : (F22_s N).X) : acall (tabOf Tryd.prog) (F22_g N) F22_an (lam N []) Tryd.f22 (F22_s N).S ((F22_s N).args x) ((F22_s N).bs x) = (F22_s N).t x Ret (fun y => some ((F22_s N).ret y)) := by kernel_rfl
theorem F22_pat (N : Nat) (a : List AV) (b : List (List AV)) (x : (F22_s N).X) (h : (F22_s N).pat a b = some x) : a = (F22_s N).args x ∧ b = (F22_s N).bs x := by
  dsimp only [F22_s] at h
  split at h
  · cases h; exact ⟨rfl, rfl⟩
  · cases h
noncomputable def F22_e (N : Nat) : Ent Tryd.prog := entOf (tabOf_ok Tryd.prog) (gam_ok _) mixed 22 Tryd.f22 Tryd.func22 rfl F22_an (lam N []) (by
    have e : actOf F22_an (Tryd.f22.body.getD .skip) 0 = [] := by kernel_rfl
    rw [e]
    intro p hp
    cases hp) (F22_s N) (fun _ => ⟨rfl, rfl⟩) (F22_text N) (F22_pat N) (F22_parF N)
/-! ### seismonet/seismonetref01.Days (function 9) -/
def F9_an : Nat → Keep × Keep := anL [(9, ⟨[0, 1, 8, 9], [], [], [], [], [], [], [], false⟩, ⟨[0, 1, 8], [], [], [], [], [], [], [], false⟩), (21, ⟨[0, 1, 8, 10], [], [], [], [], [], [], [], false⟩, ⟨[8], [], [], [], [], [], [], [], false⟩)]
noncomputable def F9_g (N : Nat) : GamK := gam (P := Tryd.prog) [F22_e N, F37_e N, F38_e N]
noncomputable def F9_l21 (N : Nat) : LSpec where
  X := Int × Int × Int × Int
  Y := (Int)
  p := fun s => match s.env.length, s.nin, s.at 0, s.at 1, s.at 8, s.at 10 with
    | 51, 0, (AV.v (.int .i64 a0)), (AV.v (.int .i64 a1)), (AV.v (.int .i64 a2)), (AV.v (.int .i64 a3)) => some (a0, a1, a2, a3)
    | _, _, _, _, _, _ => none
  st := fun x => mkS 51 [(0, (AV.v (.int .i64 x.1))), (1, (AV.v (.int .i64 x.2.1))), (8, (AV.v (.int .i64 x.2.2.1))), (10, (AV.v (.int .i64 x.2.2.2)))] [] (F9_an 21).1.toks 0
  out := fun y => (.exit 2, mkS 51 [(8, (AV.v (.int .i64 y)))] [] (F9_an 21).2.toks 0)
  sp := fun y α k => k (.exit 2, mkS 51 [(8, (AV.v (.int .i64 y)))] [] (F9_an 21).2.toks 0)
  spe := fun y α k => rfl
  b := fun x α kn ke => (match (decide (x.2.2.2 < x.2.1)) with | true => (match F37_d N (x.1, x.2.2.2) with | some y7 => (kn (x.1, x.2.1, (i64 (x.2.2.1 + y7)), (i64 (x.2.2.2 + 1)))) | none => none) | false => (ke x.2.2.1))
noncomputable abbrev F9_d21 (N : Nat) (x : Int × Int × Int × Int) : Option ((Int)) := (F9_l21 N).L N x
noncomputable def F9_l9 (N : Nat) : LSpec where
  X := Int × Int × Int × Int
  Y := (Int × Int × Int)
  p := fun s => match s.env.length, s.nin, s.at 0, s.at 1, s.at 8, s.at 9 with
    | 51, 0, (AV.v (.int .i64 a0)), (AV.v (.int .i64 a1)), (AV.v (.int .i64 a2)), (AV.v (.int .i64 a3)) => some (a0, a1, a2, a3)
    | _, _, _, _, _, _ => none
  st := fun x => mkS 51 [(0, (AV.v (.int .i64 x.1))), (1, (AV.v (.int .i64 x.2.1))), (8, (AV.v (.int .i64 x.2.2.1))), (9, (AV.v (.int .i64 x.2.2.2)))] [] (F9_an 9).1.toks 0
  out := fun y => (.exit 0, mkS 51 [(0, (AV.v (.int .i64 y.1))), (1, (AV.v (.int .i64 y.2.1))), (8, (AV.v (.int .i64 y.2.2)))] [] (F9_an 9).2.toks 0)
  sp := fun y α k => k (.exit 0, mkS 51 [(0, (AV.v (.int .i64 y.1))), (1, (AV.v (.int .i64 y.2.1))), (8, (AV.v (.int .i64 y.2.2)))] [] (F9_an 9).2.toks 0)
  spe := fun y α k => rfl
  b := fun x α kn ke => (match (decide (x.2.2.2 < x.1)) with | true => (match F38_d N x.2.2.2 with | some y5 => (match y5 with | true => (kn (x.1, x.2.1, (i64 ((i64 (x.2.2.1 + 365)) + 1)), (i64 (x.2.2.2 + 1)))) | false => (kn (x.1, x.2.1, (i64 (x.2.2.1 + 365)), (i64 (x.2.2.2 + 1))))) | none => none) | false => (ke (x.1, x.2.1, x.2.2.1)))
noncomputable abbrev F9_d9 (N : Nat) (x : Int × Int × Int × Int) : Option ((Int × Int × Int)) := (F9_l9 N).L N x
noncomputable def F9_s (N : Nat) : FSpec where
  X := Int × Int × Int
  Y := Int × Bool
  ash := [[none], [none], [none]]
  bsh := []
  S := ⟨[[none], [none]], [], [], [], []⟩
  bm := false
  pat := fun a b => match a, b with
    | [(AV.v (.int .i64 a0)), (AV.v (.int .i64 a1)), (AV.v (.int .i64 a2))], [] => some (a0, a1, a2)
    | _, _ => none
  args := fun x => [(AV.v (.int .i64 x.1)), (AV.v (.int .i64 x.2.1)), (AV.v (.int .i64 x.2.2))]
  bs := fun x => []
  ret := fun y => ⟨(AV.tup [(AV.v (.int .i64 y.1)), (AV.v (.bool y.2))]), [], none, [], [], []⟩
  t := fun x α k => (match F22_d N (x.1, 1970, 2300) with | some y1 => (match (!y1) with | true => (k (0, false)) | false => (match F22_d N (x.2.1, 1, 12) with | some y2 => (match (!y2) with | true => (k (0, false)) | false => (match F37_d N (x.1, x.2.1) with | some y3 => (match F22_d N (x.2.2, 1, y3) with | some y4 => (match (!y4) with | true => (k (0, false)) | false => (match F9_d9 N (x.1, x.2.1, (i64 (x.2.2 - 1)), 1970) with | some y6 => (match F9_d21 N (y6.1, y6.2.1, y6.2.2, 1) with | some y8 => (k (y8, true)) | none => none) | none => none)) | none => none) | none => none)) | none => none)) | none => none)
noncomputable abbrev F9_d (N : Nat) (x : Int × Int × Int) : Option (Int × Bool) := (F9_s N).d x
theorem F9_par21 (N : Nat) : Par (F9_l21 N).b := by
  intro x α β kn ke kn' ke' r r' h h1 h2
  revert h
  dsimp only [F9_l21]
  (repeat' (first | (with_reducible refine par_ite ?_ ?_) | (with_reducible refine par_both ?_ ?_) | split)) <;> intro h <;> first | exact h1 _ h | exact h2 _ h | (cases h; done)
theorem F9_body21 (N : Nat) (x : (F9_l21 N).X) (α : Type) (kn : AS → Option α) (ke : Out → Option α) : around (tabOf Tryd.prog) (F9_g N) F9_an (lam N [(9, F9_l9 N), (21, F9_l21 N)]) 21 (bodyOf (nthLoop 21 (Tryd.f9.body.getD .skip))) ((F9_l21 N).st x) kn ke = (F9_l21 N).b x α (fun x' => kn ((F9_l21 N).st x')) (fun y => (F9_l21 N).sp y α ke) := by kernel_rfl
theorem F9_pat21 (N : Nat) (s : AS) (x : (F9_l21 N).X) (hc : s = canon (F9_an 21).1 s) (h : (F9_l21 N).p s = some x) : s = (F9_l21 N).st x := by
  dsimp only [F9_l21] at h
  split at h
  · cases h
    exact canon_mk hc ‹_› ‹_› rfl rfl rfl ⟨‹_›, ‹_›, ‹_›, ‹_›, trivial⟩ trivial
  · cases h
theorem F9_loop21 (N : Nat) : ∀ s o, s = canon (F9_an 21).1 s → (lam N [(9, F9_l9 N), (21, F9_l21 N)]).v 21 s = some o → LoopSem Tryd.prog (nthLoop 21 (Tryd.f9.body.getD .skip)) s o :=
  loop_ok (tabOf_ok Tryd.prog) (gam_ok _) mixed F9_an N [(9, F9_l9 N), (21, F9_l21 N)] 21 (bodyOf (nthLoop 21 (Tryd.f9.body.getD .skip))) (nthLoop 21 (Tryd.f9.body.getD .skip)) (by kernel_rfl) (by
    have e : actOf F9_an (bodyOf (nthLoop 21 (Tryd.f9.body.getD .skip))) (21 + 1) = [] := by kernel_rfl
    rw [e]
    intro p hp
    cases hp) (F9_l21 N) rfl (fun s x hc h => F9_pat21 N s x hc h) (fun x => rfl) (fun x α kn ke => (F9_body21 N x α kn ke).trans (congrArg ((F9_l21 N).b x α _) (funext fun y => (F9_l21 N).spe y α ke))) (F9_par21 N)
theorem F9_par9 (N : Nat) : Par (F9_l9 N).b := by
  intro x α β kn ke kn' ke' r r' h h1 h2
  revert h
  dsimp only [F9_l9]
  (repeat' (first | (with_reducible refine par_ite ?_ ?_) | (with_reducible refine par_both ?_ ?_) | split)) <;> intro h <;> first | exact h1 _ h | exact h2 _ h | (cases h; done)
theorem F9_body9 (N : Nat) (x : (F9_l9 N).X) (α : Type) (kn : AS → Option α) (ke : Out → Option α) : around (tabOf Tryd.prog) (F9_g N) F9_an (lam N [(9, F9_l9 N), (21, F9_l21 N)]) 9 (bodyOf (nthLoop 9 (Tryd.f9.body.getD .skip))) ((F9_l9 N).st x) kn ke = (F9_l9 N).b x α (fun x' => kn ((F9_l9 N).st x')) (fun y => (F9_l9 N).sp y α ke) := by kernel_rfl
theorem F9_pat9 (N : Nat) (s : AS) (x : (F9_l9 N).X) (hc : s = canon (F9_an 9).1 s) (h : (F9_l9 N).p s = some x) : s = (F9_l9 N).st x := by
  dsimp only [F9_l9] at h
  split at h
  · cases h
    exact canon_mk hc ‹_› ‹_› rfl rfl rfl ⟨‹_›, ‹_›, ‹_›, ‹_›, trivial⟩ trivial
  · cases h
theorem F9_loop9 (N : Nat) : ∀ s o, s = canon (F9_an 9).1 s → (lam N [(9, F9_l9 N), (21, F9_l21 N)]).v 9 s = some o → LoopSem Tryd.prog (nthLoop 9 (Tryd.f9.body.getD .skip)) s o :=
  loop_ok (tabOf_ok Tryd.prog) (gam_ok _) mixed F9_an N [(9, F9_l9 N), (21, F9_l21 N)] 9 (bodyOf (nthLoop 9 (Tryd.f9.body.getD .skip))) (nthLoop 9 (Tryd.f9.body.getD .skip)) (by kernel_rfl) (by
    have e : actOf F9_an (bodyOf (nthLoop 9 (Tryd.f9.body.getD .skip))) (9 + 1) = [] := by kernel_rfl
    rw [e]
    intro p hp
    cases hp) (F9_l9 N) rfl (fun s x hc h => F9_pat9 N s x hc h) (fun x => rfl) (fun x α kn ke => (F9_body9 N x α kn ke).trans (congrArg ((F9_l9 N).b x α _) (funext fun y => (F9_l9 N).spe y α ke))) (F9_par9 N)
theorem F9_parF (N : Nat) : ParF (F9_s N).t := by
  intro x α β k k' r r' h h1
  revert h
  dsimp only [F9_s]
  (repeat' (first | (with_reducible refine par_ite ?_ ?_) | (with_reducible refine par_both ?_ ?_) | split)) <;> intro h <;> first | exact h1 _ h | (cases h; done)
theorem F9_text (N : Nat) (x : (F9_s N).X) : acall (tabOf Tryd.prog) (F9_g N) F9_an (lam N [(9, F9_l9 N), (21, F9_l21 N)]) Tryd.f9 (F9_s N).S ((F9_s N).args x) ((F9_s N).bs x) = (F9_s N).t x Ret (fun y => some ((F9_s N).ret y)) := by kernel_rfl
theorem F9_pat (N : Nat) (a : List AV) (b : List (List AV)) (x : (F9_s N).X) (h : (F9_s N).pat a b = some x) : a = (F9_s N).args x ∧ b = (F9_s N).bs x := by
  dsimp only [F9_s] at h
  split at h
  · cases h; exact ⟨rfl, rfl⟩
  · cases h
noncomputable def F9_e (N : Nat) : Ent Tryd.prog := entOf (tabOf_ok Tryd.prog) (gam_ok _) mixed 9 Tryd.f9 Tryd.func9 rfl F9_an (lam N [(9, F9_l9 N), (21, F9_l21 N)]) (by
    have e : actOf F9_an (Tryd.f9.body.getD .skip) 0 = [(9, nthLoop 9 (Tryd.f9.body.getD .skip)), (21, nthLoop 21 (Tryd.f9.body.getD .skip))] := by kernel_rfl
    rw [e]
    intro p hp
    rcases List.mem_cons.1 hp with rfl | hp
    · exact F9_loop9 N
    rcases List.mem_cons.1 hp with rfl | hp
    · exact F9_loop21 N
    cases hp) (F9_s N) (fun _ => ⟨rfl, rfl⟩) (F9_text N) (F9_pat N) (F9_parF N)
/-! ### seismonet/seismonetref01.Date (function 11) -/
def F11_an : Nat → Keep × Keep := anL [(9, ⟨[0, 2], [], [], [], [], [], [], [], false⟩, ⟨[0, 2], [], [], [], [], [], [], [], false⟩), (22, ⟨[0, 2, 3], [], [], [], [], [], [], [], false⟩, ⟨[0, 2, 3], [], [], [], [], [], [], [], false⟩)]
noncomputable def F11_g (N : Nat) : GamK := gam (P := Tryd.prog) [F9_e N, F22_e N, F38_e N, F37_e N]
noncomputable def F11_l22 (N : Nat) : LSpec where
  X := Int × Int × Int
  Y := (Int × Int × Int)
  p := fun s => match s.env.length, s.nin, s.at 0, s.at 2, s.at 3 with
    | 42, 0, (AV.v (.int .i64 a0)), (AV.v (.int .i64 a1)), (AV.v (.int .i64 a2)) => some (a0, a1, a2)
    | _, _, _, _, _ => none
  st := fun x => mkS 42 [(0, (AV.v (.int .i64 x.1))), (2, (AV.v (.int .i64 x.2.1))), (3, (AV.v (.int .i64 x.2.2)))] [] (F11_an 22).1.toks 0
  out := fun y => (.exit 2, mkS 42 [(0, (AV.v (.int .i64 y.1))), (2, (AV.v (.int .i64 y.2.1))), (3, (AV.v (.int .i64 y.2.2)))] [] (F11_an 22).2.toks 0)
  sp := fun y α k => k (.exit 2, mkS 42 [(0, (AV.v (.int .i64 y.1))), (2, (AV.v (.int .i64 y.2.1))), (3, (AV.v (.int .i64 y.2.2)))] [] (F11_an 22).2.toks 0)
  spe := fun y α k => rfl
  b := fun x α kn ke => (match F37_d N (x.2.1, x.2.2) with | some y5 => (match (decide (x.1 ≥ y5)) with | true => (match F37_d N (x.2.1, x.2.2) with | some y6 => (kn ((i64 (x.1 - y6)), x.2.1, (i64 (x.2.2 + 1)))) | none => none) | false => (ke (x.1, x.2.1, x.2.2))) | none => none)
noncomputable abbrev F11_d22 (N : Nat) (x : Int × Int × Int) : Option ((Int × Int × Int)) := (F11_l22 N).L N x
noncomputable def F11_l9 (N : Nat) : LSpec where
  X := Int × Int
  Y := (Int × Int)
  p := fun s => match s.env.length, s.nin, s.at 0, s.at 2 with
    | 42, 0, (AV.v (.int .i64 a0)), (AV.v (.int .i64 a1)) => some (a0, a1)
    | _, _, _, _ => none
  st := fun x => mkS 42 [(0, (AV.v (.int .i64 x.1))), (2, (AV.v (.int .i64 x.2)))] [] (F11_an 9).1.toks 0
  out := fun y => (.exit 0, mkS 42 [(0, (AV.v (.int .i64 y.1))), (2, (AV.v (.int .i64 y.2)))] [] (F11_an 9).2.toks 0)
  sp := fun y α k => k (.exit 0, mkS 42 [(0, (AV.v (.int .i64 y.1))), (2, (AV.v (.int .i64 y.2)))] [] (F11_an 9).2.toks 0)
  spe := fun y α k => rfl
  b := fun x α kn ke => (match F38_d N x.2 with | some y3 => (match y3 with | true => (match (decide (x.1 < 366)) with | true => (ke (x.1, x.2)) | false => (kn ((i64 (x.1 - 366)), (i64 (x.2 + 1))))) | false => (match (decide (x.1 < 365)) with | true => (ke (x.1, x.2)) | false => (kn ((i64 (x.1 - 365)), (i64 (x.2 + 1)))))) | none => none)
noncomputable abbrev F11_d9 (N : Nat) (x : Int × Int) : Option ((Int × Int)) := (F11_l9 N).L N x
noncomputable def F11_s (N : Nat) : FSpec where
  X := Int
  Y := Int × Int × Int
  ash := [[none]]
  bsh := []
  S := ⟨[[none], [none], [none]], [], [], [], []⟩
  bm := false
  pat := fun a b => match a, b with
    | [(AV.v (.int .i64 a0))], [] => some a0
    | _, _ => none
  args := fun x => [(AV.v (.int .i64 x))]
  bs := fun x => []
  ret := fun y => ⟨(AV.tup [(AV.v (.int .i64 y.1)), (AV.v (.int .i64 y.2.1)), (AV.v (.int .i64 y.2.2))]), [], none, [], [], []⟩
  t := fun x α k => (match F9_d N (2300, 12, 31) with | some y1 => (match F22_d N (x, 0, y1.1) with | some y2 => (match (!y2) with | true => (k (0, 0, 0)) | false => (match F11_d9 N (x, 1970) with | some y4 => (match F11_d22 N (y4.1, y4.2, 1) with | some y7 => (k (y7.2.1, y7.2.2, (i64 (y7.1 + 1)))) | none => none) | none => none)) | none => none) | none => none)
noncomputable abbrev F11_d (N : Nat) (x : Int) : Option (Int × Int × Int) := (F11_s N).d x
theorem F11_par22 (N : Nat) : Par (F11_l22 N).b := by
  intro x α β kn ke kn' ke' r r' h h1 h2
  revert h
  dsimp only [F11_l22]
  (repeat' (first | (with_reducible refine par_ite ?_ ?_) | (with_reducible refine par_both ?_ ?_) | split)) <;> intro h <;> first | exact h1 _ h | exact h2 _ h | (cases h; done)
theorem F11_body22 (N : Nat) (x : (F11_l22 N).X) (α : Type) (kn : AS → Option α) (ke : Out → Option α) : around (tabOf Tryd.prog) (F11_g N) F11_an (lam N [(9, F11_l9 N), (22, F11_l22 N)]) 22 (bodyOf (nthLoop 22 (Tryd.f11.body.getD .skip))) ((F11_l22 N).st x) kn ke = (F11_l22 N).b x α (fun x' => kn ((F11_l22 N).st x')) (fun y => (F11_l22 N).sp y α ke) := by kernel_rfl
theorem F11_pat22 (N : Nat) (s : AS) (x : (F11_l22 N).X) (hc : s = canon (F11_an 22).1 s) (h : (F11_l22 N).p s = some x) : s = (F11_l22 N).st x := by
  dsimp only [F11_l22] at h
  split at h
  · cases h
    exact canon_mk hc ‹_› ‹_› rfl rfl rfl ⟨‹_›, ‹_›, ‹_›, trivial⟩ trivial
  · cases h
theorem F11_loop22 (N : Nat) : ∀ s o, s = canon (F11_an 22).1 s → (lam N [(9, F11_l9 N), (22, F11_l22 N)]).v 22 s = some o → LoopSem Tryd.prog (nthLoop 22 (Tryd.f11.body.getD .skip)) s o :=
  loop_ok (tabOf_ok Tryd.prog) (gam_ok _) mixed F11_an N [(9, F11_l9 N), (22, F11_l22 N)] 22 (bodyOf (nthLoop 22 (Tryd.f11.body.getD .skip))) (nthLoop 22 (Tryd.f11.body.getD .skip)) (by kernel_rfl) (by
    have e : actOf F11_an (bodyOf (nthLoop 22 (Tryd.f11.body.getD .skip))) (22 + 1) = [] := by kernel_rfl
    rw [e]
    intro p hp
    cases hp) (F11_l22 N) rfl (fun s x hc h => F11_pat22 N s x hc h) (fun x => rfl) (fun x α kn ke => (F11_body22 N x α kn ke).trans (congrArg ((F11_l22 N).b x α _) (funext fun y => (F11_l22 N).spe y α ke))) (F11_par22 N)
theorem F11_par9 (N : Nat) : Par (F11_l9 N).b := by
  intro x α β kn ke kn' ke' r r' h h1 h2
  revert h
  dsimp only [F11_l9]
  (repeat' (first | (with_reducible refine par_ite ?_ ?_) | (with_reducible refine par_both ?_ ?_) | split)) <;> intro h <;> first | exact h1 _ h | exact h2 _ h | (cases h; done)
theorem F11_body9 (N : Nat) (x : (F11_l9 N).X) (α : Type) (kn : AS → Option α) (ke : Out → Option α) : around (tabOf Tryd.prog) (F11_g N) F11_an (lam N [(9, F11_l9 N), (22, F11_l22 N)]) 9 (bodyOf (nthLoop 9 (Tryd.f11.body.getD .skip))) ((F11_l9 N).st x) kn ke = (F11_l9 N).b x α (fun x' => kn ((F11_l9 N).st x')) (fun y => (F11_l9 N).sp y α ke) := by kernel_rfl
theorem F11_pat9 (N : Nat) (s : AS) (x : (F11_l9 N).X) (hc : s = canon (F11_an 9).1 s) (h : (F11_l9 N).p s = some x) : s = (F11_l9 N).st x := by
  dsimp only [F11_l9] at h
  split at h
  · cases h
    exact canon_mk hc ‹_› ‹_› rfl rfl rfl ⟨‹_›, ‹_›, trivial⟩ trivial
  · cases h
theorem F11_loop9 (N : Nat) : ∀ s o, s = canon (F11_an 9).1 s → (lam N [(9, F11_l9 N), (22, F11_l22 N)]).v 9 s = some o → LoopSem Tryd.prog (nthLoop 9 (Tryd.f11.body.getD .skip)) s o :=
  loop_ok (tabOf_ok Tryd.prog) (gam_ok _) mixed F11_an N [(9, F11_l9 N), (22, F11_l22 N)] 9 (bodyOf (nthLoop 9 (Tryd.f11.body.getD .skip))) (nthLoop 9 (Tryd.f11.body.getD .skip)) (by kernel_rfl) (by
    have e : actOf F11_an (bodyOf (nthLoop 9 (Tryd.f11.body.getD .skip))) (9 + 1) = [] := by kernel_rfl
    rw [e]
    intro p hp
    cases hp) (F11_l9 N) rfl (fun s x hc h => F11_pat9 N s x hc h) (fun x => rfl) (fun x α kn ke => (F11_body9 N x α kn ke).trans (congrArg ((F11_l9 N).b x α _) (funext fun y => (F11_l9 N).spe y α ke))) (F11_par9 N)
theorem F11_parF (N : Nat) : ParF (F11_s N).t := by
  intro x α β k k' r r' h h1
  revert h
  dsimp only [F11_s]
  (repeat' (first | (with_reducible refine par_ite ?_ ?_) | (with_reducible refine par_both ?_ ?_) | split)) <;> intro h <;> first | exact h1 _ h | (cases h; done)
theorem F11_text (N : Nat) (x : (F11_s N).X) : acall (tabOf Tryd.prog) (F11_g N) F11_an (lam N [(9, F11_l9 N), (22, F11_l22 N)]) Tryd.f11 (F11_s N).S ((F11_s N).args x) ((F11_s N).bs x) = (F11_s N).t x Ret (fun y => some ((F11_s N).ret y)) := by kernel_rfl
theorem F11_pat (N : Nat) (a : List AV) (b : List (List AV)) (x : (F11_s N).X) (h : (F11_s N).pat a b = some x) : a = (F11_s N).args x ∧ b = (F11_s N).bs x := by
  dsimp only [F11_s] at h
  split at h
  · cases h; exact ⟨rfl, rfl⟩
  · cases h
noncomputable def F11_e (N : Nat) : Ent Tryd.prog := entOf (tabOf_ok Tryd.prog) (gam_ok _) mixed 11 Tryd.f11 Tryd.func11 rfl F11_an (lam N [(9, F11_l9 N), (22, F11_l22 N)]) (by
    have e : actOf F11_an (Tryd.f11.body.getD .skip) 0 = [(9, nthLoop 9 (Tryd.f11.body.getD .skip)), (22, nthLoop 22 (Tryd.f11.body.getD .skip))] := by kernel_rfl
    rw [e]
    intro p hp
    rcases List.mem_cons.1 hp with rfl | hp
    · exact F11_loop9 N
    rcases List.mem_cons.1 hp with rfl | hp
    · exact F11_loop22 N
    cases hp) (F11_s N) (fun _ => ⟨rfl, rfl⟩) (F11_text N) (F11_pat N) (F11_parF N)
/-! ### seismonet/seismonetlaw01.UtcDates (function 3) -/
def F3_an : Nat → Keep × Keep := anL [(4, ⟨[2, 3, 45, 46], [], [], [(44, 3)], [], [], [], [], false⟩, ⟨[2, 3, 8], [], [], [], [], [], [], [], false⟩), (19, ⟨[84, 85], [], [], [(83, 1)], [], [], [], [], false⟩, ⟨[8], [], [], [], [], [], [], [], false⟩)]
noncomputable def F3_g (N : Nat) : GamK := gam (P := Tryd.prog) [F8_e N, F9_e N, F10_e N, F11_e N, F12_e N]
noncomputable def F3_l19 (N : Nat) : LSpec where
  X := (List (List AV)) × Int × Int
  Y := (Bool) ⊕ (Unit)
  p := fun s => match s.env.length, s.nin, s.at 83, s.at 84, s.at 85 with
    | 129, 0, (AV.list 1 a0 none), (AV.v (.int .i64 a1)), (AV.v (.int .i64 a2)) => some (a0, a1, a2)
    | _, _, _, _, _ => none
  st := fun x => mkS 129 [(83, (AV.list 1 x.1 none)), (84, (AV.v (.int .i64 x.2.1))), (85, (AV.v (.int .i64 x.2.2)))] [] (F3_an 19).1.toks 0
  out := fun y => match y with
    | .inl y => (.ret, mkS 129 [(8, (AV.v (.bool y)))] [] (F3_an 19).2.toks 0)
    | .inr y => (.exit 2, mkS 129 [] [] (F3_an 19).2.toks 0)
  sp := fun y α k => match y with
    | .inl y => k (.ret, mkS 129 [(8, (AV.v (.bool y)))] [] (F3_an 19).2.toks 0)
    | .inr y => k (.exit 2, mkS 129 [] [] (F3_an 19).2.toks 0)
  spe := fun y α k => by rcases y with _ | _ <;> rfl
  b := fun x α kn ke => (match (decide (x.2.2 < x.2.1)) with | true => (if 0 ≤ x.2.2 then (match x.1[x.2.2.toNat]? with | some c16 => (match c16[0]? with | some x17 => (match x17 with | .v (.int q19 n18) => (if q19 = .i64 then (match F10_d N n18 with | some y20 => (match F11_d N n18 with | some y21 => (match (y20.1 != y21.1) with | true => (ke (.inl false)) | false => (match (y20.2.1 != y21.2.1) with | true => (ke (.inl false)) | false => (match (y20.2.2 != y21.2.2) with | true => (ke (.inl false)) | false => (match F8_d N (y20.1, y20.2.1, y20.2.2) with | some y22 => (match y22.2 with | true => (match (y22.1 != n18) with | true => (ke (.inl false)) | false => (kn (x.1, x.2.1, (i64 (x.2.2 + 1))))) | false => (kn (x.1, x.2.1, (i64 (x.2.2 + 1))))) | none => none)))) | none => none) | none => none) else none) | _ => none) | none => none) | none => none) else none) | false => (ke (.inr ())))
noncomputable abbrev F3_d19 (N : Nat) (x : (List (List AV)) × Int × Int) : Option ((Bool) ⊕ (Unit)) := (F3_l19 N).L N x
noncomputable def F3_l4 (N : Nat) : LSpec where
  X := (List (List AV)) × Int × Int × Int × Int
  Y := (Int × Int × Bool) ⊕ (Int × Int)
  p := fun s => match s.env.length, s.nin, s.at 44, s.at 2, s.at 3, s.at 45, s.at 46 with
    | 129, 0, (AV.list 3 a0 none), (AV.v (.int .i64 a1)), (AV.v (.int .u32 a2)), (AV.v (.int .i64 a3)), (AV.v (.int .i64 a4)) => some (a0, a1, a2, a3, a4)
    | _, _, _, _, _, _, _ => none
  st := fun x => mkS 129 [(44, (AV.list 3 x.1 none)), (2, (AV.v (.int .i64 x.2.1))), (3, (AV.v (.int .u32 x.2.2.1))), (45, (AV.v (.int .i64 x.2.2.2.1))), (46, (AV.v (.int .i64 x.2.2.2.2)))] [] (F3_an 4).1.toks 0
  out := fun y => match y with
    | .inl y => (.ret, mkS 129 [(2, (AV.v (.int .i64 y.1))), (3, (AV.v (.int .u32 y.2.1))), (8, (AV.v (.bool y.2.2)))] [] (F3_an 4).2.toks 0)
    | .inr y => (.exit 0, mkS 129 [(2, (AV.v (.int .i64 y.1))), (3, (AV.v (.int .u32 y.2)))] [] (F3_an 4).2.toks 0)
  sp := fun y α k => match y with
    | .inl y => k (.ret, mkS 129 [(2, (AV.v (.int .i64 y.1))), (3, (AV.v (.int .u32 y.2.1))), (8, (AV.v (.bool y.2.2)))] [] (F3_an 4).2.toks 0)
    | .inr y => k (.exit 0, mkS 129 [(2, (AV.v (.int .i64 y.1))), (3, (AV.v (.int .u32 y.2)))] [] (F3_an 4).2.toks 0)
  spe := fun y α k => by rcases y with _ | _ <;> rfl
  b := fun x α kn ke => (match (decide (x.2.2.2.2 < x.2.2.2.1)) with | true => (if 0 ≤ x.2.2.2.2 then (match x.1[x.2.2.2.2.toNat]? with | some c1 => (match c1[0]? with | some x2 => (match x2 with | .v (.int q4 n3) => (if q4 = .i64 then (match c1[1]? with | some x5 => (match x5 with | .v (.int q7 n6) => (if q7 = .i64 then (match c1[2]? with | some x8 => (match x8 with | .v (.int q10 n9) => (if q10 = .i64 then (match F8_d N (n3, n6, n9) with | some y11 => (match F9_d N (n3, n6, n9) with | some y12 => (match (y11.1 != y12.1) with | true => (ke (.inl (x.2.1, x.2.2.1, false))) | false => (match (!(y11.2 == y12.2)) with | true => (ke (.inl (x.2.1, x.2.2.1, false))) | false => (kn (x.1, x.2.1, x.2.2.1, x.2.2.2.1, (i64 (x.2.2.2.2 + 1)))))) | none => none) | none => none) else none) | _ => none) | none => none) else none) | _ => none) | none => none) else none) | _ => none) | none => none) | none => none) else none) | false => (ke (.inr (x.2.1, x.2.2.1))))
noncomputable abbrev F3_d4 (N : Nat) (x : (List (List AV)) × Int × Int × Int × Int) : Option ((Int × Int × Bool) ⊕ (Int × Int)) := (F3_l4 N).L N x
noncomputable def F3_s (N : Nat) : FSpec where
  X := Int × Int × Int × Int
  Y := Bool
  ash := [[none], [none], [none], [none]]
  bsh := []
  S := ⟨[[none]], [], [], [], []⟩
  bm := false
  pat := fun a b => match a, b with
    | [(AV.v (.int .i64 a0)), (AV.v (.int .i64 a1)), (AV.v (.int .i64 a2)), (AV.v (.int .u32 a3))], [] => some (a0, a1, a2, a3)
    | _, _ => none
  args := fun x => [(AV.v (.int .i64 x.1)), (AV.v (.int .i64 x.2.1)), (AV.v (.int .i64 x.2.2.1)), (AV.v (.int .u32 x.2.2.2))]
  bs := fun x => []
  ret := fun y => ⟨(AV.v (.bool y)), [], none, [], [], []⟩
  t := fun x α k => (match F3_d4 N ([[(AV.v (.int .i64 x.1)), (AV.v (.int .i64 x.2.1)), (AV.v (.int .i64 x.2.2.1))], [(AV.v (.int .i64 (i64 (1970 + ((IntKind.i64.wrap x.2.2.2).tmod 331))))), (AV.v (.int .i64 (i64 (1 + ((IntKind.i64.wrap (shR .u32 x.2.2.2 (9 : Int))).tmod 12))))), (AV.v (.int .i64 (i64 (1 + ((IntKind.i64.wrap (shR .u32 x.2.2.2 (13 : Int))).tmod 31)))))]], x.2.2.1, x.2.2.2, ([[(AV.v (.int .i64 x.1)), (AV.v (.int .i64 x.2.1)), (AV.v (.int .i64 x.2.2.1))], [(AV.v (.int .i64 (i64 (1970 + ((IntKind.i64.wrap x.2.2.2).tmod 331))))), (AV.v (.int .i64 (i64 (1 + ((IntKind.i64.wrap (shR .u32 x.2.2.2 (9 : Int))).tmod 12))))), (AV.v (.int .i64 (i64 (1 + ((IntKind.i64.wrap (shR .u32 x.2.2.2 (13 : Int))).tmod 31)))))]].length : Int), 0) with | some y13 => (match y13 with | .inl z14 => (k z14.2.2) | .inr z15 => (match F3_d19 N ([[(AV.v (.int .i64 z15.1))], [(AV.v (.int .i64 ((IntKind.i64.wrap z15.2).tmod 121000)))]], ([[(AV.v (.int .i64 z15.1))], [(AV.v (.int .i64 ((IntKind.i64.wrap z15.2).tmod 121000)))]].length : Int), 0) with | some y23 => (match y23 with | .inl z24 => (k z24) | .inr z25 => (match F12_d N () with | some y26 => (k y26) | none => none)) | none => none)) | none => none)
noncomputable abbrev F3_d (N : Nat) (x : Int × Int × Int × Int) : Option (Bool) := (F3_s N).d x
theorem F3_par19 (N : Nat) : Par (F3_l19 N).b := by
  intro x α β kn ke kn' ke' r r' h h1 h2
  revert h
  dsimp only [F3_l19]
  (repeat' (first | (with_reducible refine par_ite ?_ ?_) | (with_reducible refine par_both ?_ ?_) | split)) <;> intro h <;> first | exact h1 _ h | exact h2 _ h | (cases h; done)
theorem F3_body19 (N : Nat) (x : (F3_l19 N).X) (α : Type) (kn : AS → Option α) (ke : Out → Option α) : around (tabOf Tryd.prog) (F3_g N) F3_an (lam N [(4, F3_l4 N), (19, F3_l19 N)]) 19 (bodyOf (nthLoop 19 (Tryd.f3.body.getD .skip))) ((F3_l19 N).st x) kn ke = (F3_l19 N).b x α (fun x' => kn ((F3_l19 N).st x')) (fun y => (F3_l19 N).sp y α ke) := by kernel_rfl
theorem F3_pat19 (N : Nat) (s : AS) (x : (F3_l19 N).X) (hc : s = canon (F3_an 19).1 s) (h : (F3_l19 N).p s = some x) : s = (F3_l19 N).st x := by
  dsimp only [F3_l19] at h
  split at h
  · cases h
    exact canon_mk hc ‹_› ‹_› rfl rfl rfl ⟨‹_›, ‹_›, ‹_›, trivial⟩ trivial
  · cases h
theorem F3_loop19 (N : Nat) : ∀ s o, s = canon (F3_an 19).1 s → (lam N [(4, F3_l4 N), (19, F3_l19 N)]).v 19 s = some o → LoopSem Tryd.prog (nthLoop 19 (Tryd.f3.body.getD .skip)) s o :=
  loop_ok (tabOf_ok Tryd.prog) (gam_ok _) mixed F3_an N [(4, F3_l4 N), (19, F3_l19 N)] 19 (bodyOf (nthLoop 19 (Tryd.f3.body.getD .skip))) (nthLoop 19 (Tryd.f3.body.getD .skip)) (by kernel_rfl) (by
    have e : actOf F3_an (bodyOf (nthLoop 19 (Tryd.f3.body.getD .skip))) (19 + 1) = [] := by kernel_rfl
    rw [e]
    intro p hp
    cases hp) (F3_l19 N) rfl (fun s x hc h => F3_pat19 N s x hc h) (fun x => rfl) (fun x α kn ke => (F3_body19 N x α kn ke).trans (congrArg ((F3_l19 N).b x α _) (funext fun y => (F3_l19 N).spe y α ke))) (F3_par19 N)
theorem F3_par4 (N : Nat) : Par (F3_l4 N).b := by
  intro x α β kn ke kn' ke' r r' h h1 h2
  revert h
  dsimp only [F3_l4]
  (repeat' (first | (with_reducible refine par_ite ?_ ?_) | (with_reducible refine par_both ?_ ?_) | split)) <;> intro h <;> first | exact h1 _ h | exact h2 _ h | (cases h; done)
theorem F3_body4 (N : Nat) (x : (F3_l4 N).X) (α : Type) (kn : AS → Option α) (ke : Out → Option α) : around (tabOf Tryd.prog) (F3_g N) F3_an (lam N [(4, F3_l4 N), (19, F3_l19 N)]) 4 (bodyOf (nthLoop 4 (Tryd.f3.body.getD .skip))) ((F3_l4 N).st x) kn ke = (F3_l4 N).b x α (fun x' => kn ((F3_l4 N).st x')) (fun y => (F3_l4 N).sp y α ke) := by kernel_rfl
theorem F3_pat4 (N : Nat) (s : AS) (x : (F3_l4 N).X) (hc : s = canon (F3_an 4).1 s) (h : (F3_l4 N).p s = some x) : s = (F3_l4 N).st x := by
  dsimp only [F3_l4] at h
  split at h
  · cases h
    exact canon_mk hc ‹_› ‹_› rfl rfl rfl ⟨‹_›, ‹_›, ‹_›, ‹_›, ‹_›, trivial⟩ trivial
  · cases h
theorem F3_loop4 (N : Nat) : ∀ s o, s = canon (F3_an 4).1 s → (lam N [(4, F3_l4 N), (19, F3_l19 N)]).v 4 s = some o → LoopSem Tryd.prog (nthLoop 4 (Tryd.f3.body.getD .skip)) s o :=
  loop_ok (tabOf_ok Tryd.prog) (gam_ok _) mixed F3_an N [(4, F3_l4 N), (19, F3_l19 N)] 4 (bodyOf (nthLoop 4 (Tryd.f3.body.getD .skip))) (nthLoop 4 (Tryd.f3.body.getD .skip)) (by kernel_rfl) (by
    have e : actOf F3_an (bodyOf (nthLoop 4 (Tryd.f3.body.getD .skip))) (4 + 1) = [] := by kernel_rfl
    rw [e]
    intro p hp
    cases hp) (F3_l4 N) rfl (fun s x hc h => F3_pat4 N s x hc h) (fun x => rfl) (fun x α kn ke => (F3_body4 N x α kn ke).trans (congrArg ((F3_l4 N).b x α _) (funext fun y => (F3_l4 N).spe y α ke))) (F3_par4 N)
theorem F3_parF (N : Nat) : ParF (F3_s N).t := by
  intro x α β k k' r r' h h1
  revert h
  dsimp only [F3_s]
  (repeat' (first | (with_reducible refine par_ite ?_ ?_) | (with_reducible refine par_both ?_ ?_) | split)) <;> intro h <;> first | exact h1 _ h | (cases h; done)
theorem F3_text (N : Nat) (x : (F3_s N).X) : acall (tabOf Tryd.prog) (F3_g N) F3_an (lam N [(4, F3_l4 N), (19, F3_l19 N)]) Tryd.f3 (F3_s N).S ((F3_s N).args x) ((F3_s N).bs x) = (F3_s N).t x Ret (fun y => some ((F3_s N).ret y)) := by kernel_rfl
theorem F3_pat (N : Nat) (a : List AV) (b : List (List AV)) (x : (F3_s N).X) (h : (F3_s N).pat a b = some x) : a = (F3_s N).args x ∧ b = (F3_s N).bs x := by
  dsimp only [F3_s] at h
  split at h
  · cases h; exact ⟨rfl, rfl⟩
  · cases h
noncomputable def F3_e (N : Nat) : Ent Tryd.prog := entOf (tabOf_ok Tryd.prog) (gam_ok _) mixed 3 Tryd.f3 Tryd.func3 rfl F3_an (lam N [(4, F3_l4 N), (19, F3_l19 N)]) (by
    have e : actOf F3_an (Tryd.f3.body.getD .skip) 0 = [(4, nthLoop 4 (Tryd.f3.body.getD .skip)), (19, nthLoop 19 (Tryd.f3.body.getD .skip))] := by kernel_rfl
    rw [e]
    intro p hp
    rcases List.mem_cons.1 hp with rfl | hp
    · exact F3_loop4 N
    rcases List.mem_cons.1 hp with rfl | hp
    · exact F3_loop19 N
    cases hp) (F3_s N) (fun _ => ⟨rfl, rfl⟩) (F3_text N) (F3_pat N) (F3_parF N)
/-! ### seismonet/seismonetmade.Light (function 13) -/
def F13_an : Nat → Keep × Keep := anL []
noncomputable def F13_g (N : Nat) : GamK := gam (P := Tryd.prog) []
noncomputable def F13_s (N : Nat) : FSpec where
  X := (List (List AV))
  Y := Bool
  ash := [[some 1]]
  bsh := []
  S := ⟨[[none]], [], [], [], []⟩
  bm := false
  pat := fun a b => match a, b with
    | [(AV.list 1 a0 none)], [] => some a0
    | _, _ => none
  args := fun x => [(AV.list 1 x none)]
  bs := fun x => []
  ret := fun y => ⟨(AV.v (.bool y)), [], none, [], [], []⟩
  t := fun x α k => (k (decide ((x.length : Int) ≤ 500)))
noncomputable abbrev F13_d (N : Nat) (x : (List (List AV))) : Option (Bool) := (F13_s N).d x
theorem F13_parF (N : Nat) : ParF (F13_s N).t := by
  intro x α β k k' r r' h h1
  revert h
  dsimp only [F13_s]
  (repeat' (first | (with_reducible refine par_ite ?_ ?_) | (with_reducible refine par_both ?_ ?_) | split)) <;> intro h <;> first | exact h1 _ h | (cases h; done)
theorem F13_text (N : Nat) (x : (F13_s N).X) : acall (tabOf Tryd.prog) (F13_g N) F13_an (lam N []) Tryd.f13 (F13_s N).S ((F13_s N).args x) ((F13_s N).bs x) = (F13_s N).t x Ret (fun y => some ((F13_s N).ret y)) := by kernel_rfl
theorem F13_pat (N : Nat) (a : List AV) (b : List (List AV)) (x : (F13_s N).X) (h : (F13_s N).pat a b = some x) : a = (F13_s N).args x ∧ b = (F13_s N).bs x := by
  dsimp only [F13_s] at h
  split at h
  · cases h; exact ⟨rfl, rfl⟩
  · cases h
noncomputable def F13_e (N : Nat) : Ent Tryd.prog := entOf (tabOf_ok Tryd.prog) (gam_ok _) mixed 13 Tryd.f13 Tryd.func13 rfl F13_an (lam N []) (by
    have e : actOf F13_an (Tryd.f13.body.getD .skip) 0 = [] := by kernel_rfl
    rw [e]
    intro p hp
    cases hp) (F13_s N) (fun _ => ⟨rfl, rfl⟩) (F13_text N) (F13_pat N) (F13_parF N)
/-! ### seismonet/seismonetmade.Roll (function 14) -/
def F14_an : Nat → Keep × Keep := anL []
noncomputable def F14_g (N : Nat) : GamK := gam (P := Tryd.prog) []
noncomputable def F14_s (N : Nat) : FSpec where
  X := (List (List AV))
  Y := (List (List AV)) × Int
  ash := [[some 1]]
  bsh := []
  S := ⟨[[none]], [], [some 1, none], [], []⟩
  bm := false
  pat := fun a b => match a, b with
    | [(AV.list 1 a0 none)], [] => some a0
    | _, _ => none
  args := fun x => [(AV.list 1 x none)]
  bs := fun x => []
  ret := fun y => ⟨(AV.ptr 0 0), [], some [(AV.list 1 y.1 none), (AV.v (.int .i64 y.2))], [], [], []⟩
  t := fun x α k => (k (x, 0))
noncomputable abbrev F14_d (N : Nat) (x : (List (List AV))) : Option ((List (List AV)) × Int) := (F14_s N).d x
theorem F14_parF (N : Nat) : ParF (F14_s N).t := by
  intro x α β k k' r r' h h1
  revert h
  dsimp only [F14_s]
  (repeat' (first | (with_reducible refine par_ite ?_ ?_) | (with_reducible refine par_both ?_ ?_) | split)) <;> intro h <;> first | exact h1 _ h | (cases h; done)
theorem F14_text (N : Nat) (x : (F14_s N).X) : acall (tabOf Tryd.prog) (F14_g N) F14_an (lam N []) Tryd.f14 (F14_s N).S ((F14_s N).args x) ((F14_s N).bs x) = (F14_s N).t x Ret (fun y => some ((F14_s N).ret y)) := by kernel_rfl
theorem F14_pat (N : Nat) (a : List AV) (b : List (List AV)) (x : (F14_s N).X) (h : (F14_s N).pat a b = some x) : a = (F14_s N).args x ∧ b = (F14_s N).bs x := by
  dsimp only [F14_s] at h
  split at h
  · cases h; exact ⟨rfl, rfl⟩
  · cases h
noncomputable def F14_e (N : Nat) : Ent Tryd.prog := entOf (tabOf_ok Tryd.prog) (gam_ok _) mixed 14 Tryd.f14 Tryd.func14 rfl F14_an (lam N []) (by
    have e : actOf F14_an (Tryd.f14.body.getD .skip) 0 = [] := by kernel_rfl
    rw [e]
    intro p hp
    cases hp) (F14_s N) (fun _ => ⟨rfl, rfl⟩) (F14_text N) (F14_pat N) (F14_parF N)
/-! ### (*seismonet/seismonetmade.Dice).Next (function 19) -/
def F19_an : Nat → Keep × Keep := anL []
noncomputable def F19_g (N : Nat) : GamK := gam (P := Tryd.prog) []
noncomputable def F19_s (N : Nat) : FSpec where
  X := Int × (List (List AV)) × Int
  Y := Int × (List (List AV)) × Int
  ash := [[none], [none]]
  bsh := [[some 1, none]]
  S := ⟨[[none]], [[some 1, none]], [], [], []⟩
  bm := false
  pat := fun a b => match a, b with
    | [(AV.ptr 0 0), (AV.v (.int .i64 a0))], [[(AV.list 1 a1 none), (AV.v (.int .i64 a2))]] => some (a0, a1, a2)
    | _, _ => none
  args := fun x => [(AV.ptr 0 0), (AV.v (.int .i64 x.1))]
  bs := fun x => [[(AV.list 1 x.2.1 none), (AV.v (.int .i64 x.2.2))]]
  ret := fun y => ⟨(AV.v (.int .i64 y.1)), [[(AV.list 1 y.2.1 none), (AV.v (.int .i64 y.2.2))]], none, [], [], []⟩
  t := fun x α k => (match (decide (x.2.2 ≥ (x.2.1.length : Int))) with | true => (k (0, x.2.1, x.2.2)) | false => (match (decide (x.1 < 1)) with | true => (k (0, x.2.1, x.2.2)) | false => (if 0 ≤ x.2.2 then (match x.2.1[x.2.2.toNat]? with | some c1 => (match c1[0]? with | some x2 => (match x2 with | .v (.int q4 n3) => (if q4 = .i64 then (if x.1 = 0 then none else (match (decide ((n3.tmod x.1) < 0)) with | true => (k ((i64 ((n3.tmod x.1) + x.1)), x.2.1, (i64 (x.2.2 + 1)))) | false => (k ((n3.tmod x.1), x.2.1, (i64 (x.2.2 + 1)))))) else none) | _ => none) | none => none) | none => none) else none)))
noncomputable abbrev F19_d (N : Nat) (x : Int × (List (List AV)) × Int) : Option (Int × (List (List AV)) × Int) := (F19_s N).d x
theorem F19_parF (N : Nat) : ParF (F19_s N).t := by
  intro x α β k k' r r' h h1
  revert h
  dsimp only [F19_s]
  (repeat' (first | (with_reducible refine par_ite ?_ ?_) | (with_reducible refine par_both ?_ ?_) | split)) <;> intro h <;> first | exact h1 _ h | (cases h; done)
theorem F19_text (N : Nat) (x : (F19_s N).X) : acall (tabOf Tryd.prog) (F19_g N) F19_an (lam N []) Tryd.f19 (F19_s N).S ((F19_s N).args x) ((F19_s N).bs x) = (F19_s N).t x Ret (fun y => some ((F19_s N).ret y)) := by kernel_rfl
theorem F19_pat (N : Nat) (a : List AV) (b : List (List AV)) (x : (F19_s N).X) (h : (F19_s N).pat a b = some x) : a = (F19_s N).args x ∧ b = (F19_s N).bs x := by
  dsimp only [F19_s] at h
  split at h
  · cases h; exact ⟨rfl, rfl⟩
  · cases h
noncomputable def F19_e (N : Nat) : Ent Tryd.prog := entOf (tabOf_ok Tryd.prog) (gam_ok _) mixed 19 Tryd.f19 Tryd.func19 rfl F19_an (lam N []) (by
    have e : actOf F19_an (Tryd.f19.body.getD .skip) 0 = [] := by kernel_rfl
    rw [e]
    intro p hp
    cases hp) (F19_s N) (fun _ => ⟨rfl, rfl⟩) (F19_text N) (F19_pat N) (F19_parF N)
/-! ### (*seismonet/seismonetmade.Dice).Pick (function 25) -/
def F25_an : Nat → Keep × Keep := anL []
noncomputable def F25_g (N : Nat) : GamK := gam (P := Tryd.prog) [F19_e N]
noncomputable def F25_s (N : Nat) : FSpec where
  X := (List (List AV)) × (List (List AV)) × Int
  Y := Int × (List (List AV)) × Int
  ash := [[none], [some 1]]
  bsh := [[some 1, none]]
  S := ⟨[[none]], [[some 1, none]], [], [], []⟩
  bm := false
  pat := fun a b => match a, b with
    | [(AV.ptr 0 0), (AV.list 1 a0 none)], [[(AV.list 1 a1 none), (AV.v (.int .i64 a2))]] => some (a0, a1, a2)
    | _, _ => none
  args := fun x => [(AV.ptr 0 0), (AV.list 1 x.1 none)]
  bs := fun x => [[(AV.list 1 x.2.1 none), (AV.v (.int .i64 x.2.2))]]
  ret := fun y => ⟨(AV.v (.int .i64 y.1)), [[(AV.list 1 y.2.1 none), (AV.v (.int .i64 y.2.2))]], none, [], [], []⟩
  t := fun x α k => (match F19_d N ((x.1.length : Int), x.2.1, x.2.2) with | some y1 => (if 0 ≤ y1.1 then (match x.1[y1.1.toNat]? with | some c2 => (match c2[0]? with | some x3 => (match x3 with | .v (.int q5 n4) => (if q5 = .i64 then (k (n4, y1.2.1, y1.2.2)) else none) | _ => none) | none => none) | none => none) else none) | none => none)
noncomputable abbrev F25_d (N : Nat) (x : (List (List AV)) × (List (List AV)) × Int) : Option (Int × (List (List AV)) × Int) := (F25_s N).d x
theorem F25_parF (N : Nat) : ParF (F25_s N).t := by
  intro x α β k k' r r' h h1
  revert h
  dsimp only [F25_s]
  (repeat' (first | (with_reducible refine par_ite ?_ ?_) | (with_reducible refine par_both ?_ ?_) | split)) <;> intro h <;> first | exact h1 _ h | (cases h; done)
theorem F25_text (N : Nat) (x : (F25_s N).X) : acall (tabOf Tryd.prog) (F25_g N) F25_an (lam N []) Tryd.f25 (F25_s N).S ((F25_s N).args x) ((F25_s N).bs x) = (F25_s N).t x Ret (fun y => some ((F25_s N).ret y)) := by kernel_rfl
theorem F25_pat (N : Nat) (a : List AV) (b : List (List AV)) (x : (F25_s N).X) (h : (F25_s N).pat a b = some x) : a = (F25_s N).args x ∧ b = (F25_s N).bs x := by
  dsimp only [F25_s] at h
  split at h
  · cases h; exact ⟨rfl, rfl⟩
  · cases h
noncomputable def F25_e (N : Nat) : Ent Tryd.prog := entOf (tabOf_ok Tryd.prog) (gam_ok _) mixed 25 Tryd.f25 Tryd.func25 rfl F25_an (lam N []) (by
    have e : actOf F25_an (Tryd.f25.body.getD .skip) 0 = [] := by kernel_rfl
    rw [e]
    intro p hp
    cases hp) (F25_s N) (fun _ => ⟨rfl, rfl⟩) (F25_text N) (F25_pat N) (F25_parF N)
/-! ### (*seismonet/seismonetmade.Dice).Leaps (function 15) -/
def F15_an : Nat → Keep × Keep := anL [(6, ⟨[0, 4, 5], [(3, 1)], [0], [], [], [], [], [], false⟩, ⟨[], [(3, 1)], [0], [], [], [], [], [], false⟩)]
noncomputable def F15_g (N : Nat) : GamK := gam (P := Tryd.prog) [F19_e N, F25_e N]
noncomputable def F15_l6 (N : Nat) : LSpec where
  X := (List (List AV)) × Int × Int × (List (List AV)) × Int
  Y := ((List (List AV)) × (List (List AV)) × Int)
  p := fun s => match s.env.length, s.nin, s.at 3, s.at 0, s.at 4, s.at 5, s.bx 0 with
    | 26, 1, (AV.list 1 a0 (some 1280000192)), (AV.ptr 0 0), (AV.v (.int .i64 a1)), (AV.v (.int .i64 a2)), some [(AV.list 1 a3 none), (AV.v (.int .i64 a4))] => some (a0, a1, a2, a3, a4)
    | _, _, _, _, _, _, _ => none
  st := fun x => mkS 26 [(3, (AV.list 1 x.1 (some 1280000192))), (0, (AV.ptr 0 0)), (4, (AV.v (.int .i64 x.2.1))), (5, (AV.v (.int .i64 x.2.2.1)))] [(0, [(AV.list 1 x.2.2.2.1 none), (AV.v (.int .i64 x.2.2.2.2))])] (F15_an 6).1.toks 1
  out := fun y => (.exit 0, mkS 26 [(3, (AV.list 1 y.1 (some 1280000192)))] [(0, [(AV.list 1 y.2.1 none), (AV.v (.int .i64 y.2.2))])] (F15_an 6).2.toks 1)
  sp := fun y α k => k (.exit 0, mkS 26 [(3, (AV.list 1 y.1 (some 1280000192)))] [(0, [(AV.list 1 y.2.1 none), (AV.v (.int .i64 y.2.2))])] (F15_an 6).2.toks 1)
  spe := fun y α k => rfl
  b := fun x α kn ke => (match (decide (x.2.2.1 > 0)) with | true => (match F25_d N ([[(AV.v (.int .i64 1))], [(AV.v (.int .i64 1))], [(AV.v (.int .i64 2))], [(AV.v (.int .i64 10))], [(AV.v (.int .i64 365))]], x.2.2.2.1, x.2.2.2.2) with | some y3 => (if (x.1.length + [[(AV.v (.int .i64 (i64 ((i64 (86400 * (i64 (x.2.1 + y3.1)))) + (x.1.length : Int)))))]].length) * 8 ≤ maxBytes then (kn ((x.1 ++ [[(AV.v (.int .i64 (i64 ((i64 (86400 * (i64 (x.2.1 + y3.1)))) + (x.1.length : Int)))))]]), (i64 (x.2.1 + y3.1)), (i64 (x.2.2.1 - 1)), y3.2.1, y3.2.2)) else none) | none => none) | false => (ke (x.1, x.2.2.2.1, x.2.2.2.2)))
noncomputable abbrev F15_d6 (N : Nat) (x : (List (List AV)) × Int × Int × (List (List AV)) × Int) : Option (((List (List AV)) × (List (List AV)) × Int)) := (F15_l6 N).L N x
noncomputable def F15_s (N : Nat) : FSpec where
  X := (List (List AV)) × Int
  Y := (List (List AV)) × (List (List AV)) × Int
  ash := [[none]]
  bsh := [[some 1, none]]
  S := ⟨[[some 2000001]], [[some 1, none]], [], [], []⟩
  bm := false
  pat := fun a b => match a, b with
    | [(AV.ptr 0 0)], [[(AV.list 1 a0 none), (AV.v (.int .i64 a1))]] => some (a0, a1)
    | _, _ => none
  args := fun x => [(AV.ptr 0 0)]
  bs := fun x => [[(AV.list 1 x.1 none), (AV.v (.int .i64 x.2))]]
  ret := fun y => ⟨(AV.list 1 y.1 (some 2560000000)), [[(AV.list 1 y.2.1 none), (AV.v (.int .i64 y.2.2))]], none, [], [2560000000], []⟩
  t := fun x α k => (match F19_d N (5, x.1, x.2) with | some y1 => (match F15_d6 N (([] : List (List AV)), 0, y1.1, y1.2.1, y1.2.2) with | some y4 => (k (y4.1, y4.2.1, y4.2.2)) | none => none) | none => none)
noncomputable abbrev F15_d (N : Nat) (x : (List (List AV)) × Int) : Option ((List (List AV)) × (List (List AV)) × Int) := (F15_s N).d x
theorem F15_par6 (N : Nat) : Par (F15_l6 N).b := by
  intro x α β kn ke kn' ke' r r' h h1 h2
  revert h
  dsimp only [F15_l6]
  (repeat' (first | (with_reducible refine par_ite ?_ ?_) | (with_reducible refine par_both ?_ ?_) | split)) <;> intro h <;> first | exact h1 _ h | exact h2 _ h | (cases h; done)
theorem F15_body6 (N : Nat) (x : (F15_l6 N).X) (α : Type) (kn : AS → Option α) (ke : Out → Option α) : around (tabOf Tryd.prog) (F15_g N) F15_an (lam N [(6, F15_l6 N)]) 6 (bodyOf (nthLoop 6 (Tryd.f15.body.getD .skip))) ((F15_l6 N).st x) kn ke = (F15_l6 N).b x α (fun x' => kn ((F15_l6 N).st x')) (fun y => (F15_l6 N).sp y α ke) := by kernel_rfl
theorem F15_pat6 (N : Nat) (s : AS) (x : (F15_l6 N).X) (hc : s = canon (F15_an 6).1 s) (h : (F15_l6 N).p s = some x) : s = (F15_l6 N).st x := by
  dsimp only [F15_l6] at h
  split at h
  · cases h
    exact canon_mk hc ‹_› ‹_› rfl rfl rfl ⟨‹_›, ‹_›, ‹_›, ‹_›, trivial⟩ ⟨‹_›, trivial⟩
  · cases h
theorem F15_loop6 (N : Nat) : ∀ s o, s = canon (F15_an 6).1 s → (lam N [(6, F15_l6 N)]).v 6 s = some o → LoopSem Tryd.prog (nthLoop 6 (Tryd.f15.body.getD .skip)) s o :=
  loop_ok (tabOf_ok Tryd.prog) (gam_ok _) mixed F15_an N [(6, F15_l6 N)] 6 (bodyOf (nthLoop 6 (Tryd.f15.body.getD .skip))) (nthLoop 6 (Tryd.f15.body.getD .skip)) (by kernel_rfl) (by
    have e : actOf F15_an (bodyOf (nthLoop 6 (Tryd.f15.body.getD .skip))) (6 + 1) = [] := by kernel_rfl
    rw [e]
    intro p hp
    cases hp) (F15_l6 N) rfl (fun s x hc h => F15_pat6 N s x hc h) (fun x => rfl) (fun x α kn ke => (F15_body6 N x α kn ke).trans (congrArg ((F15_l6 N).b x α _) (funext fun y => (F15_l6 N).spe y α ke))) (F15_par6 N)
theorem F15_parF (N : Nat) : ParF (F15_s N).t := by
  intro x α β k k' r r' h h1
  revert h
  dsimp only [F15_s]
  (repeat' (first | (with_reducible refine par_ite ?_ ?_) | (with_reducible refine par_both ?_ ?_) | split)) <;> intro h <;> first | exact h1 _ h | (cases h; done)
theorem F15_text (N : Nat) (x : (F15_s N).X) : acall (tabOf Tryd.prog) (F15_g N) F15_an (lam N [(6, F15_l6 N)]) Tryd.f15 (F15_s N).S ((F15_s N).args x) ((F15_s N).bs x) = (F15_s N).t x Ret (fun y => some ((F15_s N).ret y)) := by kernel_rfl
theorem F15_pat (N : Nat) (a : List AV) (b : List (List AV)) (x : (F15_s N).X) (h : (F15_s N).pat a b = some x) : a = (F15_s N).args x ∧ b = (F15_s N).bs x := by
  dsimp only [F15_s] at h
  split at h
  · cases h; exact ⟨rfl, rfl⟩
  · cases h
noncomputable def F15_e (N : Nat) : Ent Tryd.prog := entOf (tabOf_ok Tryd.prog) (gam_ok _) mixed 15 Tryd.f15 Tryd.func15 rfl F15_an (lam N [(6, F15_l6 N)]) (by
    have e : actOf F15_an (Tryd.f15.body.getD .skip) 0 = [(6, nthLoop 6 (Tryd.f15.body.getD .skip))] := by kernel_rfl
    rw [e]
    intro p hp
    rcases List.mem_cons.1 hp with rfl | hp
    · exact F15_loop6 N
    cases hp) (F15_s N) (fun _ => ⟨rfl, rfl⟩) (F15_text N) (F15_pat N) (F15_parF N)
/-! ### seismonet/utc.Offset (function 17) -/
def F17_an : Nat → Keep × Keep := anL []
noncomputable def F17_g (N : Nat) : GamK := gam (P := Tryd.prog) [F26_e N, F40_e N, F41_e N]
noncomputable def F17_s (N : Nat) : FSpec where
  X := (List (List AV)) × Int
  Y := Int
  ash := [[some 1], [none]]
  bsh := []
  S := ⟨[[none]], [], [], [], []⟩
  bm := false
  pat := fun a b => match a, b with
    | [(AV.list 1 a0 none), (AV.v (.int .i64 a1))], [] => some (a0, a1)
    | _, _ => none
  args := fun x => [(AV.list 1 x.1 none), (AV.v (.int .i64 x.2))]
  bs := fun x => []
  ret := fun y => ⟨(AV.v (.int .i64 y)), [], none, [], [], []⟩
  t := fun x α k => (match F26_d N x.1 with | some y1 => (match (!y1) with | true => (k 0) | false => (match F40_d N x.2 with | some y2 => (match (!y2) with | true => (k 0) | false => (match F41_d N (x.1, (i64 (x.2.tdiv 1000000))) with | some y3 => (k y3.1) | none => none)) | none => none)) | none => none)
noncomputable abbrev F17_d (N : Nat) (x : (List (List AV)) × Int) : Option (Int) := (F17_s N).d x
theorem F17_parF (N : Nat) : ParF (F17_s N).t := by
  intro x α β k k' r r' h h1
  revert h
  dsimp only [F17_s]
  (repeat' (first | (with_reducible refine par_ite ?_ ?_) | (with_reducible refine par_both ?_ ?_) | split)) <;> intro h <;> first | exact h1 _ h | (cases h; done)
theorem F17_text (N : Nat) (x : (F17_s N).X) : acall (tabOf Tryd.prog) (F17_g N) F17_an (lam N []) Tryd.f17 (F17_s N).S ((F17_s N).args x) ((F17_s N).bs x) = (F17_s N).t x Ret (fun y => some ((F17_s N).ret y)) := by kernel_rfl
theorem F17_pat (N : Nat) (a : List AV) (b : List (List AV)) (x : (F17_s N).X) (h : (F17_s N).pat a b = some x) : a = (F17_s N).args x ∧ b = (F17_s N).bs x := by
  dsimp only [F17_s] at h
  split at h
  · cases h; exact ⟨rfl, rfl⟩
  · cases h
noncomputable def F17_e (N : Nat) : Ent Tryd.prog := entOf (tabOf_ok Tryd.prog) (gam_ok _) mixed 17 Tryd.f17 Tryd.func17 rfl F17_an (lam N []) (by
    have e : actOf F17_an (Tryd.f17.body.getD .skip) 0 = [] := by kernel_rfl
    rw [e]
    intro p hp
    cases hp) (F17_s N) (fun _ => ⟨rfl, rfl⟩) (F17_text N) (F17_pat N) (F17_parF N)
/-! ### seismonet/seismonetlaw01.UtcAscends (function 4) -/
def F4_an : Nat → Keep × Keep := anL [(18, ⟨[72, 73], [], [], [(8, 1), (71, 1)], [], [], [], [], false⟩, ⟨[6], [], [], [], [], [], [], [], false⟩)]
noncomputable def F4_g (N : Nat) : GamK := gam (P := Tryd.prog) [F13_e N, F12_e N, F14_e N, F15_e N, F16_e N, F17_e N, F18_e N]
noncomputable def F4_l18 (N : Nat) : LSpec where
  X := (List (List AV)) × (List (List AV)) × Int × Int
  Y := (Bool) ⊕ (Unit)
  p := fun s => match s.env.length, s.nin, s.at 8, s.at 71, s.at 72, s.at 73 with
    | 158, 0, (AV.list 1 a0 none), (AV.list 1 a1 none), (AV.v (.int .i64 a2)), (AV.v (.int .i64 a3)) => some (a0, a1, a2, a3)
    | _, _, _, _, _, _ => none
  st := fun x => mkS 158 [(8, (AV.list 1 x.1 none)), (71, (AV.list 1 x.2.1 none)), (72, (AV.v (.int .i64 x.2.2.1))), (73, (AV.v (.int .i64 x.2.2.2)))] [] (F4_an 18).1.toks 0
  out := fun y => match y with
    | .inl y => (.ret, mkS 158 [(6, (AV.v (.bool y)))] [] (F4_an 18).2.toks 0)
    | .inr y => (.exit 0, mkS 158 [] [] (F4_an 18).2.toks 0)
  sp := fun y α k => match y with
    | .inl y => k (.ret, mkS 158 [(6, (AV.v (.bool y)))] [] (F4_an 18).2.toks 0)
    | .inr y => k (.exit 0, mkS 158 [] [] (F4_an 18).2.toks 0)
  spe := fun y α k => by rcases y with _ | _ <;> rfl
  b := fun x α kn ke => (match (decide (x.2.2.2 < x.2.2.1)) with | true => (if 0 ≤ x.2.2.2 then (match x.2.1[x.2.2.2.toNat]? with | some c9 => (match c9[0]? with | some x10 => (match x10 with | .v (.int q12 n11) => (if q12 = .i64 then (match F18_d N (x.1, (i64 (n11 * 1000000))) with | some y13 => (match F18_d N (x.1, (i64 ((i64 (n11 * 1000000)) - 1))) with | some y14 => (match F18_d N (x.1, (i64 ((i64 (n11 * 1000000)) + 1000000))) with | some y15 => (match (y13.2.2.2.2.2.2.2 != 0) with | true => (ke (.inl false)) | false => (match (y14.2.2.2.2.2.2.2 != 0) with | true => (ke (.inl false)) | false => (match (y15.2.2.2.2.2.2.2 != 0) with | true => (ke (.inl false)) | false => (match (y13.2.2.2.2.2.1 != 60) with | true => (ke (.inl false)) | false => (match (y14.2.2.2.2.2.1 != 59) with | true => (ke (.inl false)) | false => (match (y14.2.2.1 != y13.2.2.1) with | true => (ke (.inl false)) | false => (match (y15.2.2.2.2.2.1 != 0) with | true => (ke (.inl false)) | false => (match (y15.2.2.2.1 != 0) with | true => (ke (.inl false)) | false => (match F17_d N (x.1, (i64 (n11 * 1000000))) with | some y16 => (match (y16 != x.2.2.2) with | true => (ke (.inl false)) | false => (match F17_d N (x.1, (i64 ((i64 (n11 * 1000000)) + 1000000))) with | some y17 => (match (y17 != (i64 (x.2.2.2 + 1))) with | true => (ke (.inl false)) | false => (kn (x.1, x.2.1, x.2.2.1, (i64 (x.2.2.2 + 1))))) | none => none)) | none => none))))))))) | none => none) | none => none) | none => none) else none) | _ => none) | none => none) | none => none) else none) | false => (ke (.inr ())))
noncomputable abbrev F4_d18 (N : Nat) (x : (List (List AV)) × (List (List AV)) × Int × Int) : Option ((Bool) ⊕ (Unit)) := (F4_l18 N).L N x
noncomputable def F4_s (N : Nat) : FSpec where
  X := (List (List AV)) × Int × Int
  Y := Bool
  ash := [[some 1], [none], [none]]
  bsh := []
  S := ⟨[[none]], [], [], [], []⟩
  bm := false
  pat := fun a b => match a, b with
    | [(AV.list 1 a0 none), (AV.v (.int .u32 a1)), (AV.v (.int .u32 a2))], [] => some (a0, a1, a2)
    | _, _ => none
  args := fun x => [(AV.list 1 x.1 none), (AV.v (.int .u32 x.2.1)), (AV.v (.int .u32 x.2.2))]
  bs := fun x => []
  ret := fun y => ⟨(AV.v (.bool y)), [], none, [], [], []⟩
  t := fun x α k => (match F13_d N x.1 with | some y1 => (match (!y1) with | true => (match F12_d N () with | some y2 => (k y2) | none => none) | false => (match F14_d N x.1 with | some y3 => (match F15_d N (y3.1, y3.2) with | some y4 => (match F16_d N (y4.1, (i64 ((IntKind.i64.wrap x.2.1) * 100000))) with | some y5 => (match F16_d N (y4.1, (i64 ((i64 ((i64 ((IntKind.i64.wrap x.2.1) * 100000)) + 1)) + (IntKind.i64.wrap x.2.2)))) with | some y6 => (match (y5.2 != 0) with | true => (k false) | false => (match (y6.2 != 0) with | true => (k false) | false => (match (!(Go.Op.bytesLess y5.1.toList y6.1.toList)) with | true => (k false) | false => (match F17_d N (y4.1, (i64 ((IntKind.i64.wrap x.2.1) * 100000))) with | some y7 => (match F17_d N (y4.1, (i64 ((i64 ((i64 ((IntKind.i64.wrap x.2.1) * 100000)) + 1)) + (IntKind.i64.wrap x.2.2)))) with | some y8 => (match (decide (y7 > y8)) with | true => (k false) | false => (match F4_d18 N (y4.1, y4.1, (y4.1.length : Int), 0) with | some y18 => (match y18 with | .inl z19 => (k z19) | .inr z20 => (match F12_d N () with | some y21 => (k y21) | none => none)) | none => none)) | none => none) | none => none)))) | none => none) | none => none) | none => none) | none => none)) | none => none)
noncomputable abbrev F4_d (N : Nat) (x : (List (List AV)) × Int × Int) : Option (Bool) := (F4_s N).d x
theorem F4_par18 (N : Nat) : Par (F4_l18 N).b := by
  intro x α β kn ke kn' ke' r r' h h1 h2
  revert h
  dsimp only [F4_l18]
  (repeat' (first | (with_reducible refine par_ite ?_ ?_) | (with_reducible refine par_both ?_ ?_) | split)) <;> intro h <;> first | exact h1 _ h | exact h2 _ h | (cases h; done)
theorem F4_body18 (N : Nat) (x : (F4_l18 N).X) (α : Type) (kn : AS → Option α) (ke : Out → Option α) : around (tabOf Tryd.prog) (F4_g N) F4_an (lam N [(18, F4_l18 N)]) 18 (bodyOf (nthLoop 18 (Tryd.f4.body.getD .skip))) ((F4_l18 N).st x) kn ke = (F4_l18 N).b x α (fun x' => kn ((F4_l18 N).st x')) (fun y => (F4_l18 N).sp y α ke) := by kernel_rfl
theorem F4_pat18 (N : Nat) (s : AS) (x : (F4_l18 N).X) (hc : s = canon (F4_an 18).1 s) (h : (F4_l18 N).p s = some x) : s = (F4_l18 N).st x := by
  dsimp only [F4_l18] at h
  split at h
  · cases h
    exact canon_mk hc ‹_› ‹_› rfl rfl rfl ⟨‹_›, ‹_›, ‹_›, ‹_›, trivial⟩ trivial
  · cases h
theorem F4_loop18 (N : Nat) : ∀ s o, s = canon (F4_an 18).1 s → (lam N [(18, F4_l18 N)]).v 18 s = some o → LoopSem Tryd.prog (nthLoop 18 (Tryd.f4.body.getD .skip)) s o :=
  loop_ok (tabOf_ok Tryd.prog) (gam_ok _) mixed F4_an N [(18, F4_l18 N)] 18 (bodyOf (nthLoop 18 (Tryd.f4.body.getD .skip))) (nthLoop 18 (Tryd.f4.body.getD .skip)) (by kernel_rfl) (by
    have e : actOf F4_an (bodyOf (nthLoop 18 (Tryd.f4.body.getD .skip))) (18 + 1) = [] := by kernel_rfl
    rw [e]
    intro p hp
    cases hp) (F4_l18 N) rfl (fun s x hc h => F4_pat18 N s x hc h) (fun x => rfl) (fun x α kn ke => (F4_body18 N x α kn ke).trans (congrArg ((F4_l18 N).b x α _) (funext fun y => (F4_l18 N).spe y α ke))) (F4_par18 N)
theorem F4_parF (N : Nat) : ParF (F4_s N).t := by
  intro x α β k k' r r' h h1
  revert h
  dsimp only [F4_s]
  (repeat' (first | (with_reducible refine par_ite ?_ ?_) | (with_reducible refine par_both ?_ ?_) | split)) <;> intro h <;> first | exact h1 _ h | (cases h; done)
theorem F4_text (N : Nat) (x : (F4_s N).X) : acall (tabOf Tryd.prog) (F4_g N) F4_an (lam N [(18, F4_l18 N)]) Tryd.f4 (F4_s N).S ((F4_s N).args x) ((F4_s N).bs x) = (F4_s N).t x Ret (fun y => some ((F4_s N).ret y)) := by kernel_rfl
theorem F4_pat (N : Nat) (a : List AV) (b : List (List AV)) (x : (F4_s N).X) (h : (F4_s N).pat a b = some x) : a = (F4_s N).args x ∧ b = (F4_s N).bs x := by
  dsimp only [F4_s] at h
  split at h
  · cases h; exact ⟨rfl, rfl⟩
  · cases h
noncomputable def F4_e (N : Nat) : Ent Tryd.prog := entOf (tabOf_ok Tryd.prog) (gam_ok _) mixed 4 Tryd.f4 Tryd.func4 rfl F4_an (lam N [(18, F4_l18 N)]) (by
    have e : actOf F4_an (Tryd.f4.body.getD .skip) 0 = [(18, nthLoop 18 (Tryd.f4.body.getD .skip))] := by kernel_rfl
    rw [e]
    intro p hp
    rcases List.mem_cons.1 hp with rfl | hp
    · exact F4_loop18 N
    cases hp) (F4_s N) (fun _ => ⟨rfl, rfl⟩) (F4_text N) (F4_pat N) (F4_parF N)
/-! ### seismonet/seismonetlaw01.UtcTables (function 5) -/
def F5_an : Nat → Keep × Keep := anL []
noncomputable def F5_g (N : Nat) : GamK := gam (P := Tryd.prog) [F13_e N, F12_e N, F14_e N, F15_e N, F19_e N, F18_e N, F17_e N]
noncomputable def F5_s (N : Nat) : FSpec where
  X := (List (List AV)) × Int
  Y := Bool
  ash := [[some 1], [none]]
  bsh := []
  S := ⟨[[none]], [], [], [], []⟩
  bm := false
  pat := fun a b => match a, b with
    | [(AV.list 1 a0 none), (AV.v (.int .u32 a1))], [] => some (a0, a1)
    | _, _ => none
  args := fun x => [(AV.list 1 x.1 none), (AV.v (.int .u32 x.2))]
  bs := fun x => []
  ret := fun y => ⟨(AV.v (.bool y)), [], none, [], [], []⟩
  t := fun x α k => (match F13_d N x.1 with | some y1 => (match (!y1) with | true => (match F12_d N () with | some y2 => (k y2) | none => none) | false => (match F14_d N x.1 with | some y3 => (match F15_d N (y3.1, y3.2) with | some y4 => (match ((y4.1.length : Int) == 0) with | true => (match F12_d N () with | some y5 => (k y5) | none => none) | false => (match F19_d N ((y4.1.length : Int), y4.2.1, y4.2.2) with | some y6 => (if 0 ≤ y6.1 ∧ y6.1 ≤ y4.1.length then (match F18_d N (y4.1, (i64 ((IntKind.i64.wrap x.2) * 50000))) with | some y7 => (match F18_d N ((y4.1.take y6.1.toNat), (i64 ((IntKind.i64.wrap x.2) * 50000))) with | some y8 => (match (y7.2.2.2.2.2.2.2 != 0) with | true => (k false) | false => (match (y8.2.2.2.2.2.2.2 != 0) with | true => (k false) | false => (if 0 ≤ y6.1 then (match y4.1[y6.1.toNat]? with | some c9 => (match c9[0]? with | some x10 => (match x10 with | .v (.int q12 n11) => (if q12 = .i64 then (match (decide ((i64 ((i64 ((IntKind.i64.wrap x.2) * 50000)).tdiv 1000000)) < n11)) with | true => (match ((y7.1 == y8.1) && ((y7.2.1 == y8.2.1) && ((y7.2.2.1 == y8.2.2.1) && ((y7.2.2.2.1 == y8.2.2.2.1) && ((y7.2.2.2.2.1 == y8.2.2.2.2.1) && ((y7.2.2.2.2.2.1 == y8.2.2.2.2.2.1) && ((y7.2.2.2.2.2.2.1 == y8.2.2.2.2.2.2.1) && true))))))) with | true => (match F12_d N () with | some y13 => (k y13) | none => none) | false => (k false)) | false => (match F17_d N (y4.1, (i64 ((IntKind.i64.wrap x.2) * 50000))) with | some y14 => (match F17_d N ((y4.1.take y6.1.toNat), (i64 ((IntKind.i64.wrap x.2) * 50000))) with | some y15 => (match (y7.2.2.2.2.2.1 == 60) with | true => (match (decide ((i64 (y14 - y15)) ≥ 0)) with | true => (match F12_d N () with | some y16 => (k y16) | none => none) | false => (k false)) | false => (match F18_d N ((y4.1.take y6.1.toNat), (i64 ((i64 ((IntKind.i64.wrap x.2) * 50000)) - (i64 ((i64 (y14 - y15)) * 1000000))))) with | some y17 => (match (y17.2.2.2.2.2.2.2 == 0) with | true => (match ((y7.1 == y17.1) && ((y7.2.1 == y17.2.1) && ((y7.2.2.1 == y17.2.2.1) && ((y7.2.2.2.1 == y17.2.2.2.1) && ((y7.2.2.2.2.1 == y17.2.2.2.2.1) && ((y7.2.2.2.2.2.1 == y17.2.2.2.2.2.1) && ((y7.2.2.2.2.2.2.1 == y17.2.2.2.2.2.2.1) && true))))))) with | true => (match F12_d N () with | some y18 => (k y18) | none => none) | false => (k false)) | false => (k false)) | none => none)) | none => none) | none => none)) else none) | _ => none) | none => none) | none => none) else none))) | none => none) | none => none) else none) | none => none)) | none => none) | none => none)) | none => none)
noncomputable abbrev F5_d (N : Nat) (x : (List (List AV)) × Int) : Option (Bool) := (F5_s N).d x
theorem F5_parF (N : Nat) : ParF (F5_s N).t := by
  intro x α β k k' r r' h h1
  revert h
  dsimp only [F5_s]
  (repeat' (first | (with_reducible refine par_ite ?_ ?_) | (with_reducible refine par_both ?_ ?_) | split)) <;> intro h <;> first | exact h1 _ h | (cases h; done)
theorem F5_text (N : Nat) (x : (F5_s N).X) : acall (tabOf Tryd.prog) (F5_g N) F5_an (lam N []) Tryd.f5 (F5_s N).S ((F5_s N).args x) ((F5_s N).bs x) = (F5_s N).t x Ret (fun y => some ((F5_s N).ret y)) := by kernel_rfl
theorem F5_pat (N : Nat) (a : List AV) (b : List (List AV)) (x : (F5_s N).X) (h : (F5_s N).pat a b = some x) : a = (F5_s N).args x ∧ b = (F5_s N).bs x := by
  dsimp only [F5_s] at h
  split at h
  · cases h; exact ⟨rfl, rfl⟩
  · cases h
noncomputable def F5_e (N : Nat) : Ent Tryd.prog := entOf (tabOf_ok Tryd.prog) (gam_ok _) mixed 5 Tryd.f5 Tryd.func5 rfl F5_an (lam N []) (by
    have e : actOf F5_an (Tryd.f5.body.getD .skip) 0 = [] := by kernel_rfl
    rw [e]
    intro p hp
    cases hp) (F5_s N) (fun _ => ⟨rfl, rfl⟩) (F5_text N) (F5_pat N) (F5_parF N)
end Go.Proofs.YtaanjciokdpkmaaDoor
