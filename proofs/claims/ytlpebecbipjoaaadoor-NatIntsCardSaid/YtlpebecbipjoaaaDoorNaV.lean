/- Functions without memory. (written by sx.py) -/
import Derived.Test.YtlpebecbipjoaaaDoorNaU
namespace Go.Proofs.YtlpebecbipjoaaaDoor
open Go.RowKit
set_option linter.unusedVariables false
set_option linter.unusedSimpArgs false
set_option linter.unnecessarySimpa false
set_option maxRecDepth 4000
/-! ### seismonet/seismonetlaw17.NatAlgebra$1 (function 21) -/
def F21_an : Nat → Keep × Keep := anL []
noncomputable def F21_g (N : Nat) : GamK := gam (P := Tryd.prog) [F16_e N]
noncomputable def F21_s (N : Nat) : FSpec where
  X := (List (List AV)) × (List (List AV))
  Y := (List (List AV))
  ash := [[some 1], [some 1]]
  bsh := []
  S := ⟨[[some 1]], [], [], [], []⟩
  bm := false
  pat := fun a b => match a, b with
    | [(AV.list 1 a0 none), (AV.list 1 a1 none)], [] => some (a0, a1)
    | _, _ => none
  args := fun x => [(AV.list 1 x.1 none), (AV.list 1 x.2 none)]
  bs := fun x => []
  ret := fun y => ⟨(AV.list 1 y none), [], none, [], [], []⟩
  t := fun x α k => (match F16_d N (x.1, x.2) with | some y1 => (k y1.1) | none => none)
noncomputable abbrev F21_d (N : Nat) (x : (List (List AV)) × (List (List AV))) : Option ((List (List AV))) := (F21_s N).d x
theorem F21_parF (N : Nat) : ParF (F21_s N).t := by
  intro x α β k k' r r' h h1
  revert h
  dsimp only [F21_s]
  (repeat' (first | (with_reducible refine par_ite ?_ ?_) | (with_reducible refine par_both ?_ ?_) | split)) <;> intro h <;> first | exact h1 _ h | (cases h; done)
theorem F21_text (N : Nat) (x : (F21_s N).X) : acall (tabOf Tryd.prog) (F21_g N) F21_an (lam N []) Tryd.f21 (F21_s N).S ((F21_s N).args x) ((F21_s N).bs x) = (F21_s N).t x Ret (fun y => some ((F21_s N).ret y)) := by kernel_rfl
theorem F21_pat (N : Nat) (a : List AV) (b : List (List AV)) (x : (F21_s N).X) (h : (F21_s N).pat a b = some x) : a = (F21_s N).args x ∧ b = (F21_s N).bs x := by
  dsimp only [F21_s] at h
  split at h
  · cases h; exact ⟨rfl, rfl⟩
  · cases h
noncomputable def F21_e (N : Nat) : Ent Tryd.prog := entOf (tabOf_ok Tryd.prog) (gam_ok _) mixed 21 Tryd.f21 Tryd.func21 rfl F21_an (lam N []) (by
    have e : actOf F21_an (Tryd.f21.body.getD .skip) 0 = [] := by kernel_rfl
    rw [e]
    intro p hp
    cases hp) (F21_s N) (fun _ => ⟨rfl, rfl⟩) (F21_text N) (F21_pat N) (F21_parF N)
/-! ### seismonet/nat.Sub (function 24) -/
def F24_an : Nat → Keep × Keep := anL [(14, ⟨[7, 19, 20], [(6, 1)], [], [(0, 1), (1, 1)], [], [], [], [], false⟩, ⟨[], [(6, 1)], [], [], [], [], [], [], false⟩)]
noncomputable def F24_g (N : Nat) : GamK := gam (P := Tryd.prog) [F37_e N, F38_e N, F39_e N, F36_e N]
noncomputable def F24_l14 (N : Nat) : LSpec where
  X := (List (List AV)) × (List (List AV)) × (List (List AV)) × Int × Int × Int
  Y := ((List (List AV)))
  p := fun s => match s.env.length, s.nin, s.at 6, s.at 0, s.at 1, s.at 7, s.at 19, s.at 20 with
    | 46, 0, (AV.list 1 a0 (some 1280000384)), (AV.list 1 a1 none), (AV.list 1 a2 none), (AV.v (.int .i64 a3)), (AV.v (.int .i64 a4)), (AV.v (.int .i64 a5)) => some (a0, a1, a2, a3, a4, a5)
    | _, _, _, _, _, _, _, _ => none
  st := fun x => mkS 46 [(6, (AV.list 1 x.1 (some 1280000384))), (0, (AV.list 1 x.2.1 none)), (1, (AV.list 1 x.2.2.1 none)), (7, (AV.v (.int .i64 x.2.2.2.1))), (19, (AV.v (.int .i64 x.2.2.2.2.1))), (20, (AV.v (.int .i64 x.2.2.2.2.2)))] [] (F24_an 14).1.toks 0
  out := fun y => (.exit 0, mkS 46 [(6, (AV.list 1 y (some 1280000384)))] [] (F24_an 14).2.toks 0)
  sp := fun y α k => k (.exit 0, mkS 46 [(6, (AV.list 1 y (some 1280000384)))] [] (F24_an 14).2.toks 0)
  spe := fun y α k => rfl
  b := fun x α kn ke => (match (decide (x.2.2.2.2.2 < x.2.2.2.2.1)) with | true => (if 0 ≤ x.2.2.2.2.2 then (match x.2.1[x.2.2.2.2.2.toNat]? with | some c3 => (match c3[0]? with | some x4 => (match x4 with | .v (.int q6 n5) => (if q6 = .i64 then (match F39_d N (x.2.2.1, x.2.2.2.2.2) with | some y7 => (match (decide ((i64 ((i64 (n5 - y7)) - x.2.2.2.1)) < 0)) with | true => (if (x.1.length + [[(AV.v (.int .i64 (i64 ((i64 ((i64 (n5 - y7)) - x.2.2.2.1)) + 1073741824))))]].length) * 8 ≤ maxBytes then (kn ((x.1 ++ [[(AV.v (.int .i64 (i64 ((i64 ((i64 (n5 - y7)) - x.2.2.2.1)) + 1073741824))))]]), x.2.1, x.2.2.1, 1, x.2.2.2.2.1, (i64 (x.2.2.2.2.2 + 1)))) else none) | false => (if (x.1.length + [[(AV.v (.int .i64 (i64 ((i64 (n5 - y7)) - x.2.2.2.1))))]].length) * 8 ≤ maxBytes then (kn ((x.1 ++ [[(AV.v (.int .i64 (i64 ((i64 (n5 - y7)) - x.2.2.2.1))))]]), x.2.1, x.2.2.1, 0, x.2.2.2.2.1, (i64 (x.2.2.2.2.2 + 1)))) else none)) | none => none) else none) | _ => none) | none => none) | none => none) else none) | false => (ke x.1))
noncomputable abbrev F24_d14 (N : Nat) (x : (List (List AV)) × (List (List AV)) × (List (List AV)) × Int × Int × Int) : Option (((List (List AV)))) := (F24_l14 N).L N x
noncomputable def F24_s (N : Nat) : FSpec where
  X := (List (List AV)) × (List (List AV))
  Y := (List (List AV)) × Int
  ash := [[some 1], [some 1]]
  bsh := []
  S := ⟨[[some 1], [none]], [], [], [], []⟩
  bm := false
  pat := fun a b => match a, b with
    | [(AV.list 1 a0 none), (AV.list 1 a1 none)], [] => some (a0, a1)
    | _, _ => none
  args := fun x => [(AV.list 1 x.1 none), (AV.list 1 x.2 none)]
  bs := fun x => []
  ret := fun y => ⟨(AV.tup [(AV.list 1 y.1 none), (AV.v (.int .i64 y.2))]), [], none, [], [], []⟩
  t := fun x α k => (match F37_d N (x.1, x.2) with | some y1 => (match (!y1) with | true => (k (([] : List (List AV)), 1)) | false => (match F38_d N (x.1, x.2) with | some y2 => (match (decide (y2 < 0)) with | true => (k (([] : List (List AV)), 2)) | false => (match F24_d14 N (([] : List (List AV)), x.1, x.2, 0, (x.1.length : Int), 0) with | some y8 => (match F36_d N y8 with | some y9 => (k (y9.1, y9.2)) | none => none) | none => none)) | none => none)) | none => none)
noncomputable abbrev F24_d (N : Nat) (x : (List (List AV)) × (List (List AV))) : Option ((List (List AV)) × Int) := (F24_s N).d x
theorem F24_par14 (N : Nat) : Par (F24_l14 N).b := by
  intro x α β kn ke kn' ke' r r' h h1 h2
  revert h
  dsimp only [F24_l14]
  (repeat' (first | (with_reducible refine par_ite ?_ ?_) | (with_reducible refine par_both ?_ ?_) | split)) <;> intro h <;> first | exact h1 _ h | exact h2 _ h | (cases h; done)
theorem F24_body14 (N : Nat) (x : (F24_l14 N).X) (α : Type) (kn : AS → Option α) (ke : Out → Option α) : around (tabOf Tryd.prog) (F24_g N) F24_an (lam N [(14, F24_l14 N)]) 14 (bodyOf (nthLoop 14 (Tryd.f24.body.getD .skip))) ((F24_l14 N).st x) kn ke = (F24_l14 N).b x α (fun x' => kn ((F24_l14 N).st x')) (fun y => (F24_l14 N).sp y α ke) := by kernel_rfl
theorem F24_pat14 (N : Nat) (s : AS) (x : (F24_l14 N).X) (hc : s = canon (F24_an 14).1 s) (h : (F24_l14 N).p s = some x) : s = (F24_l14 N).st x := by
  dsimp only [F24_l14] at h
  split at h
  · cases h
    exact canon_mk hc ‹_› ‹_› rfl rfl rfl ⟨‹_›, ‹_›, ‹_›, ‹_›, ‹_›, ‹_›, trivial⟩ trivial
  · cases h
theorem F24_loop14 (N : Nat) : ∀ s o, s = canon (F24_an 14).1 s → (lam N [(14, F24_l14 N)]).v 14 s = some o → LoopSem Tryd.prog (nthLoop 14 (Tryd.f24.body.getD .skip)) s o :=
  loop_ok (tabOf_ok Tryd.prog) (gam_ok _) mixed F24_an N [(14, F24_l14 N)] 14 (bodyOf (nthLoop 14 (Tryd.f24.body.getD .skip))) (nthLoop 14 (Tryd.f24.body.getD .skip)) (by kernel_rfl) (by
    have e : actOf F24_an (bodyOf (nthLoop 14 (Tryd.f24.body.getD .skip))) (14 + 1) = [] := by kernel_rfl
    rw [e]
    intro p hp
    cases hp) (F24_l14 N) rfl (fun s x hc h => F24_pat14 N s x hc h) (fun x => rfl) (fun x α kn ke => (F24_body14 N x α kn ke).trans (congrArg ((F24_l14 N).b x α _) (funext fun y => (F24_l14 N).spe y α ke))) (F24_par14 N)
theorem F24_parF (N : Nat) : ParF (F24_s N).t := by
  intro x α β k k' r r' h h1
  revert h
  dsimp only [F24_s]
  (repeat' (first | (with_reducible refine par_ite ?_ ?_) | (with_reducible refine par_both ?_ ?_) | split)) <;> intro h <;> first | exact h1 _ h | (cases h; done)
theorem F24_text (N : Nat) (x : (F24_s N).X) : acall (tabOf Tryd.prog) (F24_g N) F24_an (lam N [(14, F24_l14 N)]) Tryd.f24 (F24_s N).S ((F24_s N).args x) ((F24_s N).bs x) = (F24_s N).t x Ret (fun y => some ((F24_s N).ret y)) := by kernel_rfl
theorem F24_pat (N : Nat) (a : List AV) (b : List (List AV)) (x : (F24_s N).X) (h : (F24_s N).pat a b = some x) : a = (F24_s N).args x ∧ b = (F24_s N).bs x := by
  dsimp only [F24_s] at h
  split at h
  · cases h; exact ⟨rfl, rfl⟩
  · cases h
noncomputable def F24_e (N : Nat) : Ent Tryd.prog := entOf (tabOf_ok Tryd.prog) (gam_ok _) mixed 24 Tryd.f24 Tryd.func24 rfl F24_an (lam N [(14, F24_l14 N)]) (by
    have e : actOf F24_an (Tryd.f24.body.getD .skip) 0 = [(14, nthLoop 14 (Tryd.f24.body.getD .skip))] := by kernel_rfl
    rw [e]
    intro p hp
    rcases List.mem_cons.1 hp with rfl | hp
    · exact F24_loop14 N
    cases hp) (F24_s N) (fun _ => ⟨rfl, rfl⟩) (F24_text N) (F24_pat N) (F24_parF N)
/-! ### seismonet/nat.DivSmall (function 25) -/
def F25_an : Nat → Keep × Keep := anL []
noncomputable def F25_g (N : Nat) : GamK := gam (P := Tryd.prog) [F29_e N, F30_e N]
noncomputable def F25_s (N : Nat) : FSpec where
  X := (List (List AV)) × Int
  Y := (List (List AV)) × Int × Int
  ash := [[some 1], [none]]
  bsh := []
  S := ⟨[[some 1], [none], [none]], [], [], [], []⟩
  bm := false
  pat := fun a b => match a, b with
    | [(AV.list 1 a0 none), (AV.v (.int .i64 a1))], [] => some (a0, a1)
    | _, _ => none
  args := fun x => [(AV.list 1 x.1 none), (AV.v (.int .i64 x.2))]
  bs := fun x => []
  ret := fun y => ⟨(AV.tup [(AV.list 1 y.1 none), (AV.v (.int .i64 y.2.1)), (AV.v (.int .i64 y.2.2))]), [], none, [], [], []⟩
  t := fun x α k => (match F29_d N x.1 with | some y1 => (match (!y1) with | true => (k (([] : List (List AV)), 0, 1)) | false => (match (decide (x.2 < 1)) with | true => (k (([] : List (List AV)), 0, 2)) | false => (match (decide (x.2 ≥ 1073741824)) with | true => (k (([] : List (List AV)), 0, 2)) | false => (match F30_d N (x.1, x.2) with | some y2 => (k (y2.1, y2.2, 0)) | none => none)))) | none => none)
noncomputable abbrev F25_d (N : Nat) (x : (List (List AV)) × Int) : Option ((List (List AV)) × Int × Int) := (F25_s N).d x
theorem F25_parF (N : Nat) : ParF (F25_s N).t := by
  intro x α β k k' r r' h h1
  revert h
  dsimp only [F25_s]
  (repeat' (first | (with_reducible refine par_ite ?_ ?_) | (with_reducible refine par_both ?_ ?_) | split)) <;> intro h <;> first | exact h1 _ h | (cases h; done)
theorem F25_text (N : Nat) (x : (F25_s N).X) : acall (tabOf Tryd.prog) (F25_g N) F25_an (lam N []) Tryd.f25 (F25_s N).S ((F25_s N).args x) ((F25_s N).bs x) = (F25_s N).t x Ret (fun y => some ((F25_s N).ret y)) := by kernel_rfl
theorem F25_pat (N : Nat) (a : List AV) (b : List (List AV)) (x : (F25_s N).X) (h : (F25_s N).pat a b = some x) : a = (F25_s N).args x ∧ b = (F25_s N).bs x := by
  dsimp only [F25_s] at h
  split at h
  · cases h; exact ⟨rfl, rfl⟩
  · cases h
noncomputable def F25_e (N : Nat) : Ent Tryd.prog := entOf (tabOf_ok Tryd.prog) (gam_ok _) mixed 25 Tryd.f25 Tryd.func25 rfl F25_an (lam N []) (by
    have e : actOf F25_an (Tryd.f25.body.getD .skip) 0 = [] := by kernel_rfl
    rw [e]
    intro p hp
    cases hp) (F25_s N) (fun _ => ⟨rfl, rfl⟩) (F25_text N) (F25_pat N) (F25_parF N)
/-! ### seismonet/nat.Mul (function 23) -/
def F23_an : Nat → Keep × Keep := anL []
noncomputable def F23_g (N : Nat) : GamK := gam (P := Tryd.prog) [F37_e N, F41_e N, F36_e N]
noncomputable def F23_s (N : Nat) : FSpec where
  X := (List (List AV)) × (List (List AV))
  Y := (List (List AV)) × Int
  ash := [[some 1], [some 1]]
  bsh := []
  S := ⟨[[some 1], [none]], [], [], [], []⟩
  bm := false
  pat := fun a b => match a, b with
    | [(AV.list 1 a0 none), (AV.list 1 a1 none)], [] => some (a0, a1)
    | _, _ => none
  args := fun x => [(AV.list 1 x.1 none), (AV.list 1 x.2 none)]
  bs := fun x => []
  ret := fun y => ⟨(AV.tup [(AV.list 1 y.1 none), (AV.v (.int .i64 y.2))]), [], none, [], [], []⟩
  t := fun x α k => (match F37_d N (x.1, x.2) with | some y1 => (match (!y1) with | true => (k (([] : List (List AV)), 1)) | false => (match F41_d N (x.1, x.2) with | some y2 => (match F36_d N y2 with | some y3 => (k (y3.1, y3.2)) | none => none) | none => none)) | none => none)
noncomputable abbrev F23_d (N : Nat) (x : (List (List AV)) × (List (List AV))) : Option ((List (List AV)) × Int) := (F23_s N).d x
theorem F23_parF (N : Nat) : ParF (F23_s N).t := by
  intro x α β k k' r r' h h1
  revert h
  dsimp only [F23_s]
  (repeat' (first | (with_reducible refine par_ite ?_ ?_) | (with_reducible refine par_both ?_ ?_) | split)) <;> intro h <;> first | exact h1 _ h | (cases h; done)
theorem F23_text (N : Nat) (x : (F23_s N).X) : acall (tabOf Tryd.prog) (F23_g N) F23_an (lam N []) Tryd.f23 (F23_s N).S ((F23_s N).args x) ((F23_s N).bs x) = (F23_s N).t x Ret (fun y => some ((F23_s N).ret y)) := by kernel_rfl
theorem F23_pat (N : Nat) (a : List AV) (b : List (List AV)) (x : (F23_s N).X) (h : (F23_s N).pat a b = some x) : a = (F23_s N).args x ∧ b = (F23_s N).bs x := by
  dsimp only [F23_s] at h
  split at h
  · cases h; exact ⟨rfl, rfl⟩
  · cases h
noncomputable def F23_e (N : Nat) : Ent Tryd.prog := entOf (tabOf_ok Tryd.prog) (gam_ok _) mixed 23 Tryd.f23 Tryd.func23 rfl F23_an (lam N []) (by
    have e : actOf F23_an (Tryd.f23.body.getD .skip) 0 = [] := by kernel_rfl
    rw [e]
    intro p hp
    cases hp) (F23_s N) (fun _ => ⟨rfl, rfl⟩) (F23_text N) (F23_pat N) (F23_parF N)
/-! ### seismonet/seismonetlaw17.NatAlgebra$2 (function 22) -/
def F22_an : Nat → Keep × Keep := anL []
noncomputable def F22_g (N : Nat) : GamK := gam (P := Tryd.prog) [F23_e N]
noncomputable def F22_s (N : Nat) : FSpec where
  X := (List (List AV)) × (List (List AV))
  Y := (List (List AV))
  ash := [[some 1], [some 1]]
  bsh := []
  S := ⟨[[some 1]], [], [], [], []⟩
  bm := false
  pat := fun a b => match a, b with
    | [(AV.list 1 a0 none), (AV.list 1 a1 none)], [] => some (a0, a1)
    | _, _ => none
  args := fun x => [(AV.list 1 x.1 none), (AV.list 1 x.2 none)]
  bs := fun x => []
  ret := fun y => ⟨(AV.list 1 y none), [], none, [], [], []⟩
  t := fun x α k => (match F23_d N (x.1, x.2) with | some y1 => (k y1.1) | none => none)
noncomputable abbrev F22_d (N : Nat) (x : (List (List AV)) × (List (List AV))) : Option ((List (List AV))) := (F22_s N).d x
theorem F22_parF (N : Nat) : ParF (F22_s N).t := by
  intro x α β k k' r r' h h1
  revert h
  dsimp only [F22_s]
  (repeat' (first | (with_reducible refine par_ite ?_ ?_) | (with_reducible refine par_both ?_ ?_) | split)) <;> intro h <;> first | exact h1 _ h | (cases h; done)
theorem F22_text (N : Nat) (x : (F22_s N).X) : acall (tabOf Tryd.prog) (F22_g N) F22_an (lam N []) Tryd.f22 (F22_s N).S ((F22_s N).args x) ((F22_s N).bs x) = (F22_s N).t x Ret (fun y => some ((F22_s N).ret y)) := by kernel_rfl
theorem F22_pat (N : Nat) (a : List AV) (b : List (List AV)) (x : (F22_s N).X) (h : (F22_s N).pat a b = some x) : a = (F22_s N).args x ∧ b = (F22_s N).bs x := by
  dsimp only [F22_s] at h
  split at h
  · cases h; exact ⟨rfl, rfl⟩
  · cases h
noncomputable def F22_e (N : Nat) : Ent Tryd.prog := entOf (tabOf_ok Tryd.prog) (gam_ok _) mixed 22 Tryd.f22 Tryd.func22 rfl F22_an (lam N []) (by
    have e : actOf F22_an (Tryd.f22.body.getD .skip) 0 = [] := by kernel_rfl
    rw [e]
    intro p hp
    cases hp) (F22_s N) (fun _ => ⟨rfl, rfl⟩) (F22_text N) (F22_pat N) (F22_parF N)
/-! ### seismonet/seismonetlaw17.NatAlgebra (function 5) -/
def F5_an : Nat → Keep × Keep := anL []
noncomputable def F5_g (N : Nat) : GamK := gam (P := Tryd.prog) [F7_e N, F8_e N, F9_e N, F10_e N, F21_e N, F24_e N, F25_e N, F17_e N, F14_e N, F22_e N]
noncomputable def F5_s (N : Nat) : FSpec where
  X := (List (List AV)) × Int
  Y := Bool
  ash := [[some 1], [none]]
  bsh := []
  S := ⟨[[none]], [], [], [], []⟩
  bm := false
  pat := fun a b => match a, b with
    | [(AV.list 1 a0 none), (AV.v (.int .u16 a1))], [] => some (a0, a1)
    | _, _ => none
  args := fun x => [(AV.list 1 x.1 none), (AV.v (.int .u16 x.2))]
  bs := fun x => []
  ret := fun y => ⟨(AV.v (.bool y)), [], none, [], [], []⟩
  t := fun x α k => (match F7_d N x.1 with | some y1 => (match (!y1) with | true => (match F8_d N () with | some y2 => (k y2) | none => none) | false => (match F9_d N x.1 with | some y3 => (match F10_d N (6, y3.1, y3.2) with | some y4 => (match F10_d N (6, y4.2.1, y4.2.2) with | some y5 => (match F10_d N (6, y5.2.1, y5.2.2) with | some y6 => (match F21_d N (y4.1, y5.1) with | some y7 => (match F24_d N (y7, y5.1) with | some y8 => (match F25_d N (y4.1, (i64 (1 + (IntKind.i64.wrap x.2)))) with | some y9 => (match F17_d N (i64 (1 + (IntKind.i64.wrap x.2))) with | some y10 => (match F17_d N y9.2.1 with | some y11 => (match (y8.2 == 0) with | true => (match (y9.2.2 == 0) with | true => (match F14_d N (y8.1, y4.1) with | some y12 => (match y12 with | true => (match F21_d N (y4.1, y5.1) with | some y13 => (match F21_d N (y5.1, y4.1) with | some y14 => (match F14_d N (y13, y14) with | some y15 => (match y15 with | true => (match F22_d N (y4.1, y5.1) with | some y16 => (match F22_d N (y5.1, y4.1) with | some y17 => (match F14_d N (y16, y17) with | some y18 => (match y18 with | true => (match F21_d N (y5.1, y6.1) with | some y19 => (match F21_d N (y4.1, y19) with | some y20 => (match F21_d N (y4.1, y5.1) with | some y21 => (match F21_d N (y21, y6.1) with | some y22 => (match F14_d N (y20, y22) with | some y23 => (match y23 with | true => (match F22_d N (y5.1, y6.1) with | some y24 => (match F22_d N (y4.1, y24) with | some y25 => (match F22_d N (y4.1, y5.1) with | some y26 => (match F22_d N (y26, y6.1) with | some y27 => (match F14_d N (y25, y27) with | some y28 => (match y28 with | true => (match F21_d N (y5.1, y6.1) with | some y29 => (match F22_d N (y4.1, y29) with | some y30 => (match F22_d N (y4.1, y5.1) with | some y31 => (match F22_d N (y4.1, y6.1) with | some y32 => (match F21_d N (y31, y32) with | some y33 => (match F14_d N (y30, y33) with | some y34 => (match y34 with | true => (match (decide (y9.2.1 < (i64 (1 + (IntKind.i64.wrap x.2))))) with | true => (match F22_d N (y9.1, y10.1) with | some y35 => (match F21_d N (y35, y11.1) with | some y36 => (match F14_d N (y36, y4.1) with | some y37 => (match y37 with | true => (match F8_d N () with | some y38 => (k y38) | none => none) | false => (k false)) | none => none) | none => none) | none => none) | false => (k false)) | false => (k false)) | none => none) | none => none) | none => none) | none => none) | none => none) | none => none) | false => (k false)) | none => none) | none => none) | none => none) | none => none) | none => none) | false => (k false)) | none => none) | none => none) | none => none) | none => none) | none => none) | false => (k false)) | none => none) | none => none) | none => none) | false => (k false)) | none => none) | none => none) | none => none) | false => (k false)) | none => none) | false => (k false)) | false => (k false)) | none => none) | none => none) | none => none) | none => none) | none => none) | none => none) | none => none) | none => none) | none => none)) | none => none)
noncomputable abbrev F5_d (N : Nat) (x : (List (List AV)) × Int) : Option (Bool) := (F5_s N).d x
theorem F5_parF (N : Nat) : ParF (F5_s N).t := by
  intro x α β k k' r r' h h1
  revert h
  dsimp only [F5_s]
  (repeat' (first | (with_reducible refine par_ite ?_ ?_) | (with_reducible refine par_both ?_ ?_) | split)) <;> intro h <;> first | exact h1 _ h | (cases h; done)
theorem F5_text (N : Nat) (x : (F5_s N).X) : acall (tabOf Tryd.prog) (F5_g N) F5_an (lam N []) Tryd.f5 (F5_s N).S ((F5_s N).args x) ((F5_s N).bs x) = (F5_s N).t x Ret (fun y => some ((F5_s N).ret y)) := by kernel_rfl
theorem F5_pat (N : Nat) (a : List AV) (b : List (List AV)) (x : (F5_s N).X) (h : (F5_s N).pat a b = some x) : a = (F5_s N).args x ∧ b = (F5_s N).bs x := by
  dsimp only [F5_s] at h
  split at h
  · cases h; exact ⟨rfl, rfl⟩
  · cases h
noncomputable def F5_e (N : Nat) : Ent Tryd.prog := entOf (tabOf_ok Tryd.prog) (gam_ok _) mixed 5 Tryd.f5 Tryd.func5 rfl F5_an (lam N []) (by
    have e : actOf F5_an (Tryd.f5.body.getD .skip) 0 = [] := by kernel_rfl
    rw [e]
    intro p hp
    cases hp) (F5_s N) (fun _ => ⟨rfl, rfl⟩) (F5_text N) (F5_pat N) (F5_parF N)
end Go.Proofs.YtlpebecbipjoaaaDoor
