/- Several texts as one (written by merge.py): UtW UtY UtZ. -/
import Derived.Test.YtaanjciokdpkmaaDoorUyB
/- Functions without memory. (written by sx.py) -/
namespace Go.Proofs.YtaanjciokdpkmaaDoor
open Go.RowKit
set_option linter.unusedVariables false
set_option linter.unusedSimpArgs false
set_option linter.unnecessarySimpa false
set_option maxRecDepth 4000
/-! ### seismonet/seismonetref01.Valid (function 27) -/
def F27_an : Nat → Keep × Keep := anL [(4, ⟨[3], [], [], [(0, 1)], [], [], [], [], false⟩, ⟨[2], [], [], [(0, 1)], [], [], [], [], false⟩)]
noncomputable def F27_g (N : Nat) : GamK := gam (P := Tryd.prog) [F22_e N]
noncomputable def F27_l4 (N : Nat) : LSpec where
  X := (List (List AV)) × Int
  Y := ((List (List AV)) × Bool) ⊕ ((List (List AV)))
  p := fun s => match s.env.length, s.nin, s.at 0, s.at 3 with
    | 50, 0, (AV.list 1 a0 none), (AV.v (.int .i64 a1)) => some (a0, a1)
    | _, _, _, _ => none
  st := fun x => mkS 50 [(0, (AV.list 1 x.1 none)), (3, (AV.v (.int .i64 x.2)))] [] (F27_an 4).1.toks 0
  out := fun y => match y with
    | .inl y => (.ret, mkS 50 [(0, (AV.list 1 y.1 none)), (2, (AV.v (.bool y.2)))] [] (F27_an 4).2.toks 0)
    | .inr y => (.exit 0, mkS 50 [(0, (AV.list 1 y none))] [] (F27_an 4).2.toks 0)
  sp := fun y α k => match y with
    | .inl y => k (.ret, mkS 50 [(0, (AV.list 1 y.1 none)), (2, (AV.v (.bool y.2)))] [] (F27_an 4).2.toks 0)
    | .inr y => k (.exit 0, mkS 50 [(0, (AV.list 1 y none))] [] (F27_an 4).2.toks 0)
  spe := fun y α k => by rcases y with _ | _ <;> rfl
  b := fun x α kn ke => (match (decide (x.2 < (x.1.length : Int))) with | true => (if 0 ≤ x.2 then (match x.1[x.2.toNat]? with | some c1 => (match c1[0]? with | some x2 => (match x2 with | .v (.int q4 n3) => (if q4 = .i64 then (match F22_d N (n3, 1, 9007199254) with | some y5 => (match (!y5) with | true => (ke (.inl (x.1, false))) | false => (match (decide (x.2 > 0)) with | true => (if 0 ≤ x.2 then (match x.1[x.2.toNat]? with | some c6 => (match c6[0]? with | some x7 => (match x7 with | .v (.int q9 n8) => (if q9 = .i64 then (if 0 ≤ (i64 (x.2 - 1)) then (match x.1[(i64 (x.2 - 1)).toNat]? with | some c10 => (match c10[0]? with | some x11 => (match x11 with | .v (.int q13 n12) => (if q13 = .i64 then (match (decide ((i64 (n8 - x.2)) ≤ (i64 (n12 - (i64 (x.2 - 1)))))) with | true => (ke (.inl (x.1, false))) | false => (if 0 ≤ x.2 then (match x.1[x.2.toNat]? with | some c14 => (match c14[0]? with | some x15 => (match x15 with | .v (.int q17 n16) => (if q17 = .i64 then (match (((i64 (n16 - x.2)).tmod 86400) != 0) with | true => (ke (.inl (x.1, false))) | false => (kn (x.1, (i64 (x.2 + 1))))) else none) | _ => none) | none => none) | none => none) else none)) else none) | _ => none) | none => none) | none => none) else none) else none) | _ => none) | none => none) | none => none) else none) | false => (if 0 ≤ x.2 then (match x.1[x.2.toNat]? with | some c18 => (match c18[0]? with | some x19 => (match x19 with | .v (.int q21 n20) => (if q21 = .i64 then (match (((i64 (n20 - x.2)).tmod 86400) != 0) with | true => (ke (.inl (x.1, false))) | false => (kn (x.1, (i64 (x.2 + 1))))) else none) | _ => none) | none => none) | none => none) else none))) | none => none) else none) | _ => none) | none => none) | none => none) else none) | false => (ke (.inr x.1)))
noncomputable abbrev F27_d4 (N : Nat) (x : (List (List AV)) × Int) : Option (((List (List AV)) × Bool) ⊕ ((List (List AV)))) := (F27_l4 N).L N x
noncomputable def F27_s (N : Nat) : FSpec where
  X := (List (List AV))
  Y := Bool
  ash := [[some 1]]
  bsh := []
  S := ⟨[[none]], [], [], [], []⟩
  bm := false
  pat := fun a b => match a, b with
    | [(AV.list 1 a0 none)], [] => some a0
    | _, _ => none
  args := fun x => [(AV.list 1 x none)]
  bs := fun x => []
  ret := fun y => ⟨(AV.v (.bool y)), [], none, [], [], []⟩
  t := fun x α k => (match F27_d4 N (x, 0) with | some y22 => (match y22 with | .inl z23 => (k z23.2) | .inr z24 => (k (decide ((z24.length : Int) ≤ 64)))) | none => none)
noncomputable abbrev F27_d (N : Nat) (x : (List (List AV))) : Option (Bool) := (F27_s N).d x
theorem F27_par4 (N : Nat) : Par (F27_l4 N).b := by
  intro x α β kn ke kn' ke' r r' h h1 h2
  revert h
  dsimp only [F27_l4]
  (repeat' (first | (with_reducible refine par_ite ?_ ?_) | (with_reducible refine par_both ?_ ?_) | split)) <;> intro h <;> first | exact h1 _ h | exact h2 _ h | (cases h; done)
theorem F27_body4 (N : Nat) (x : (F27_l4 N).X) (α : Type) (kn : AS → Option α) (ke : Out → Option α) : around (tabOf Tryd.prog) (F27_g N) F27_an (lam N [(4, F27_l4 N)]) 4 (bodyOf (nthLoop 4 (Tryd.f27.body.getD .skip))) ((F27_l4 N).st x) kn ke = (F27_l4 N).b x α (fun x' => kn ((F27_l4 N).st x')) (fun y => (F27_l4 N).sp y α ke) := by kernel_rfl
theorem F27_pat4 (N : Nat) (s : AS) (x : (F27_l4 N).X) (hc : s = canon (F27_an 4).1 s) (h : (F27_l4 N).p s = some x) : s = (F27_l4 N).st x := by
  dsimp only [F27_l4] at h
  split at h
  · cases h
    exact canon_mk hc ‹_› ‹_› rfl rfl rfl ⟨‹_›, ‹_›, trivial⟩ trivial
  · cases h
theorem F27_loop4 (N : Nat) : ∀ s o, s = canon (F27_an 4).1 s → (lam N [(4, F27_l4 N)]).v 4 s = some o → LoopSem Tryd.prog (nthLoop 4 (Tryd.f27.body.getD .skip)) s o :=
  loop_ok (tabOf_ok Tryd.prog) (gam_ok _) mixed F27_an N [(4, F27_l4 N)] 4 (bodyOf (nthLoop 4 (Tryd.f27.body.getD .skip))) (nthLoop 4 (Tryd.f27.body.getD .skip)) (by kernel_rfl) (by
    have e : actOf F27_an (bodyOf (nthLoop 4 (Tryd.f27.body.getD .skip))) (4 + 1) = [] := by kernel_rfl
    rw [e]
    intro p hp
    cases hp) (F27_l4 N) rfl (fun s x hc h => F27_pat4 N s x hc h) (fun x => rfl) (fun x α kn ke => (F27_body4 N x α kn ke).trans (congrArg ((F27_l4 N).b x α _) (funext fun y => (F27_l4 N).spe y α ke))) (F27_par4 N)
theorem F27_parF (N : Nat) : ParF (F27_s N).t := by
  intro x α β k k' r r' h h1
  revert h
  dsimp only [F27_s]
  (repeat' (first | (with_reducible refine par_ite ?_ ?_) | (with_reducible refine par_both ?_ ?_) | split)) <;> intro h <;> first | exact h1 _ h | (cases h; done)
theorem F27_text (N : Nat) (x : (F27_s N).X) : acall (tabOf Tryd.prog) (F27_g N) F27_an (lam N [(4, F27_l4 N)]) Tryd.f27 (F27_s N).S ((F27_s N).args x) ((F27_s N).bs x) = (F27_s N).t x Ret (fun y => some ((F27_s N).ret y)) := by kernel_rfl
theorem F27_pat (N : Nat) (a : List AV) (b : List (List AV)) (x : (F27_s N).X) (h : (F27_s N).pat a b = some x) : a = (F27_s N).args x ∧ b = (F27_s N).bs x := by
  dsimp only [F27_s] at h
  split at h
  · cases h; exact ⟨rfl, rfl⟩
  · cases h
noncomputable def F27_e (N : Nat) : Ent Tryd.prog := entOf (tabOf_ok Tryd.prog) (gam_ok _) mixed 27 Tryd.f27 Tryd.func27 rfl F27_an (lam N [(4, F27_l4 N)]) (by
    have e : actOf F27_an (Tryd.f27.body.getD .skip) 0 = [(4, nthLoop 4 (Tryd.f27.body.getD .skip))] := by kernel_rfl
    rw [e]
    intro p hp
    rcases List.mem_cons.1 hp with rfl | hp
    · exact F27_loop4 N
    cases hp) (F27_s N) (fun _ => ⟨rfl, rfl⟩) (F27_text N) (F27_pat N) (F27_parF N)
/-! ### seismonet/seismonetref01.before (function 42) -/
def F42_an : Nat → Keep × Keep := anL [(5, ⟨[1, 6, 7], [], [], [(0, 1)], [], [], [], [], false⟩, ⟨[4, 5, 6], [], [], [], [], [], [], [], false⟩)]
noncomputable def F42_g (N : Nat) : GamK := gam (P := Tryd.prog) []
noncomputable def F42_l5 (N : Nat) : LSpec where
  X := (List (List AV)) × Int × Int × Int
  Y := (Int × Bool × Int) ⊕ (Int)
  p := fun s => match s.env.length, s.nin, s.at 0, s.at 1, s.at 6, s.at 7 with
    | 30, 0, (AV.list 1 a0 none), (AV.v (.int .i64 a1)), (AV.v (.int .i64 a2)), (AV.v (.int .i64 a3)) => some (a0, a1, a2, a3)
    | _, _, _, _, _, _ => none
  st := fun x => mkS 30 [(0, (AV.list 1 x.1 none)), (1, (AV.v (.int .i64 x.2.1))), (6, (AV.v (.int .i64 x.2.2.1))), (7, (AV.v (.int .i64 x.2.2.2)))] [] (F42_an 5).1.toks 0
  out := fun y => match y with
    | .inl y => (.ret, mkS 30 [(4, (AV.v (.int .i64 y.1))), (5, (AV.v (.bool y.2.1))), (6, (AV.v (.int .i64 y.2.2)))] [] (F42_an 5).2.toks 0)
    | .inr y => (.exit 0, mkS 30 [(6, (AV.v (.int .i64 y)))] [] (F42_an 5).2.toks 0)
  sp := fun y α k => match y with
    | .inl y => k (.ret, mkS 30 [(4, (AV.v (.int .i64 y.1))), (5, (AV.v (.bool y.2.1))), (6, (AV.v (.int .i64 y.2.2)))] [] (F42_an 5).2.toks 0)
    | .inr y => k (.exit 0, mkS 30 [(6, (AV.v (.int .i64 y)))] [] (F42_an 5).2.toks 0)
  spe := fun y α k => by rcases y with _ | _ <;> rfl
  b := fun x α kn ke => (match (decide (x.2.2.2 < (x.1.length : Int))) with | true => (if 0 ≤ x.2.2.2 then (match x.1[x.2.2.2.toNat]? with | some c1 => (match c1[0]? with | some x2 => (match x2 with | .v (.int q4 n3) => (if q4 = .i64 then (match (n3 == x.2.1) with | true => (ke (.inl (x.2.2.1, true, x.2.2.1))) | false => (if 0 ≤ x.2.2.2 then (match x.1[x.2.2.2.toNat]? with | some c5 => (match c5[0]? with | some x6 => (match x6 with | .v (.int q8 n7) => (if q8 = .i64 then (match (decide (n7 < x.2.1)) with | true => (kn (x.1, x.2.1, (i64 (x.2.2.1 + 1)), (i64 (x.2.2.2 + 1)))) | false => (kn (x.1, x.2.1, x.2.2.1, (i64 (x.2.2.2 + 1))))) else none) | _ => none) | none => none) | none => none) else none)) else none) | _ => none) | none => none) | none => none) else none) | false => (ke (.inr x.2.2.1)))
noncomputable abbrev F42_d5 (N : Nat) (x : (List (List AV)) × Int × Int × Int) : Option ((Int × Bool × Int) ⊕ (Int)) := (F42_l5 N).L N x
noncomputable def F42_s (N : Nat) : FSpec where
  X := (List (List AV)) × Int
  Y := Int × Bool
  ash := [[some 1], [none]]
  bsh := []
  S := ⟨[[none], [none]], [], [], [], []⟩
  bm := false
  pat := fun a b => match a, b with
    | [(AV.list 1 a0 none), (AV.v (.int .i64 a1))], [] => some (a0, a1)
    | _, _ => none
  args := fun x => [(AV.list 1 x.1 none), (AV.v (.int .i64 x.2))]
  bs := fun x => []
  ret := fun y => ⟨(AV.tup [(AV.v (.int .i64 y.1)), (AV.v (.bool y.2))]), [], none, [], [], []⟩
  t := fun x α k => (match F42_d5 N (x.1, x.2, 0, 0) with | some y9 => (match y9 with | .inl z10 => (k (z10.1, z10.2.1)) | .inr z11 => (k (z11, false))) | none => none)
noncomputable abbrev F42_d (N : Nat) (x : (List (List AV)) × Int) : Option (Int × Bool) := (F42_s N).d x
theorem F42_par5 (N : Nat) : Par (F42_l5 N).b := by
  intro x α β kn ke kn' ke' r r' h h1 h2
  revert h
  dsimp only [F42_l5]
  (repeat' (first | (with_reducible refine par_ite ?_ ?_) | (with_reducible refine par_both ?_ ?_) | split)) <;> intro h <;> first | exact h1 _ h | exact h2 _ h | (cases h; done)
theorem F42_body5 (N : Nat) (x : (F42_l5 N).X) (α : Type) (kn : AS → Option α) (ke : Out → Option α) : around (tabOf Tryd.prog) (F42_g N) F42_an (lam N [(5, F42_l5 N)]) 5 (bodyOf (nthLoop 5 (Tryd.f42.body.getD .skip))) ((F42_l5 N).st x) kn ke = (F42_l5 N).b x α (fun x' => kn ((F42_l5 N).st x')) (fun y => (F42_l5 N).sp y α ke) := by kernel_rfl
theorem F42_pat5 (N : Nat) (s : AS) (x : (F42_l5 N).X) (hc : s = canon (F42_an 5).1 s) (h : (F42_l5 N).p s = some x) : s = (F42_l5 N).st x := by
  dsimp only [F42_l5] at h
  split at h
  · cases h
    exact canon_mk hc ‹_› ‹_› rfl rfl rfl ⟨‹_›, ‹_›, ‹_›, ‹_›, trivial⟩ trivial
  · cases h
theorem F42_loop5 (N : Nat) : ∀ s o, s = canon (F42_an 5).1 s → (lam N [(5, F42_l5 N)]).v 5 s = some o → LoopSem Tryd.prog (nthLoop 5 (Tryd.f42.body.getD .skip)) s o :=
  loop_ok (tabOf_ok Tryd.prog) (gam_ok _) mixed F42_an N [(5, F42_l5 N)] 5 (bodyOf (nthLoop 5 (Tryd.f42.body.getD .skip))) (nthLoop 5 (Tryd.f42.body.getD .skip)) (by kernel_rfl) (by
    have e : actOf F42_an (bodyOf (nthLoop 5 (Tryd.f42.body.getD .skip))) (5 + 1) = [] := by kernel_rfl
    rw [e]
    intro p hp
    cases hp) (F42_l5 N) rfl (fun s x hc h => F42_pat5 N s x hc h) (fun x => rfl) (fun x α kn ke => (F42_body5 N x α kn ke).trans (congrArg ((F42_l5 N).b x α _) (funext fun y => (F42_l5 N).spe y α ke))) (F42_par5 N)
theorem F42_parF (N : Nat) : ParF (F42_s N).t := by
  intro x α β k k' r r' h h1
  revert h
  dsimp only [F42_s]
  (repeat' (first | (with_reducible refine par_ite ?_ ?_) | (with_reducible refine par_both ?_ ?_) | split)) <;> intro h <;> first | exact h1 _ h | (cases h; done)
theorem F42_text (N : Nat) (x : (F42_s N).X) : acall (tabOf Tryd.prog) (F42_g N) F42_an (lam N [(5, F42_l5 N)]) Tryd.f42 (F42_s N).S ((F42_s N).args x) ((F42_s N).bs x) = (F42_s N).t x Ret (fun y => some ((F42_s N).ret y)) := by kernel_rfl
theorem F42_pat (N : Nat) (a : List AV) (b : List (List AV)) (x : (F42_s N).X) (h : (F42_s N).pat a b = some x) : a = (F42_s N).args x ∧ b = (F42_s N).bs x := by
  dsimp only [F42_s] at h
  split at h
  · cases h; exact ⟨rfl, rfl⟩
  · cases h
noncomputable def F42_e (N : Nat) : Ent Tryd.prog := entOf (tabOf_ok Tryd.prog) (gam_ok _) mixed 42 Tryd.f42 Tryd.func42 rfl F42_an (lam N [(5, F42_l5 N)]) (by
    have e : actOf F42_an (Tryd.f42.body.getD .skip) 0 = [(5, nthLoop 5 (Tryd.f42.body.getD .skip))] := by kernel_rfl
    rw [e]
    intro p hp
    rcases List.mem_cons.1 hp with rfl | hp
    · exact F42_loop5 N
    cases hp) (F42_s N) (fun _ => ⟨rfl, rfl⟩) (F42_text N) (F42_pat N) (F42_parF N)
/-! ### seismonet/seismonetref01.ToCivil (function 28) -/
def F28_an : Nat → Keep × Keep := anL []
noncomputable def F28_g (N : Nat) : GamK := gam (P := Tryd.prog) [F27_e N, F22_e N, F42_e N, F11_e N]
noncomputable def F28_s (N : Nat) : FSpec where
  X := (List (List AV)) × Int
  Y := Int × Int × Int × Int × Int × Int × Int × Int
  ash := [[some 1], [none]]
  bsh := []
  S := ⟨[[none, none, none, none, none, none, none], [none]], [], [], [], []⟩
  bm := false
  pat := fun a b => match a, b with
    | [(AV.list 1 a0 none), (AV.v (.int .i64 a1))], [] => some (a0, a1)
    | _, _ => none
  args := fun x => [(AV.list 1 x.1 none), (AV.v (.int .i64 x.2))]
  bs := fun x => []
  ret := fun y => ⟨(AV.tup [(AV.agg [(AV.v (.int .i64 y.1)), (AV.v (.int .i64 y.2.1)), (AV.v (.int .i64 y.2.2.1)), (AV.v (.int .i64 y.2.2.2.1)), (AV.v (.int .i64 y.2.2.2.2.1)), (AV.v (.int .i64 y.2.2.2.2.2.1)), (AV.v (.int .i64 y.2.2.2.2.2.2.1))]), (AV.v (.int .i64 y.2.2.2.2.2.2.2))]), [], none, [], [], []⟩
  t := fun x α k => (match F27_d N x.1 with | some y1 => (match (!y1) with | true => (k (0, 0, 0, 0, 0, 0, 0, 1)) | false => (match F22_d N (x.2, 0, 9007199254740992) with | some y2 => (match (!y2) with | true => (k (0, 0, 0, 0, 0, 0, 0, 2)) | false => (match F42_d N (x.1, (i64 (x.2.tdiv 1000000))) with | some y3 => (match y3.2 with | true => (match F11_d N (i64 ((i64 ((i64 ((i64 (x.2.tdiv 1000000)) - y3.1)).tdiv 86400)) - 1)) with | some y4 => (k (y4.1, y4.2.1, y4.2.2, 23, 59, 60, (x.2.tmod 1000000), 0)) | none => none) | false => (match F11_d N (i64 ((i64 ((i64 (x.2.tdiv 1000000)) - y3.1)).tdiv 86400)) with | some y5 => (k (y5.1, y5.2.1, y5.2.2, (i64 (((i64 ((i64 (x.2.tdiv 1000000)) - y3.1)).tmod 86400).tdiv 3600)), (i64 (((i64 ((i64 (x.2.tdiv 1000000)) - y3.1)).tmod 3600).tdiv 60)), ((i64 ((i64 (x.2.tdiv 1000000)) - y3.1)).tmod 60), (x.2.tmod 1000000), 0)) | none => none)) | none => none)) | none => none)) | none => none)
noncomputable abbrev F28_d (N : Nat) (x : (List (List AV)) × Int) : Option (Int × Int × Int × Int × Int × Int × Int × Int) := (F28_s N).d x
theorem F28_parF (N : Nat) : ParF (F28_s N).t := by
  intro x α β k k' r r' h h1
  revert h
  dsimp only [F28_s]
  (repeat' (first | (with_reducible refine par_ite ?_ ?_) | (with_reducible refine par_both ?_ ?_) | split)) <;> intro h <;> first | exact h1 _ h | (cases h; done)
theorem F28_text (N : Nat) (x : (F28_s N).X) : acall (tabOf Tryd.prog) (F28_g N) F28_an (lam N []) Tryd.f28 (F28_s N).S ((F28_s N).args x) ((F28_s N).bs x) = (F28_s N).t x Ret (fun y => some ((F28_s N).ret y)) := by kernel_rfl
theorem F28_pat (N : Nat) (a : List AV) (b : List (List AV)) (x : (F28_s N).X) (h : (F28_s N).pat a b = some x) : a = (F28_s N).args x ∧ b = (F28_s N).bs x := by
  dsimp only [F28_s] at h
  split at h
  · cases h; exact ⟨rfl, rfl⟩
  · cases h
noncomputable def F28_e (N : Nat) : Ent Tryd.prog := entOf (tabOf_ok Tryd.prog) (gam_ok _) mixed 28 Tryd.f28 Tryd.func28 rfl F28_an (lam N []) (by
    have e : actOf F28_an (Tryd.f28.body.getD .skip) 0 = [] := by kernel_rfl
    rw [e]
    intro p hp
    cases hp) (F28_s N) (fun _ => ⟨rfl, rfl⟩) (F28_text N) (F28_pat N) (F28_parF N)
/-! ### seismonet/seismonetref01.Offset (function 30) -/
def F30_an : Nat → Keep × Keep := anL []
noncomputable def F30_g (N : Nat) : GamK := gam (P := Tryd.prog) [F27_e N, F22_e N, F42_e N]
noncomputable def F30_s (N : Nat) : FSpec where
  X := (List (List AV)) × Int
  Y := Int
  ash := [[some 1], [none]]
  bsh := []
  S := ⟨[[none]], [], [], [], []⟩
  bm := false
  pat := fun a b => match a, b with
    | [(AV.list 1 a0 none), (AV.v (.int .i64 a1))], [] => some (a0, a1)
    | _, _ => none
  args := fun x => [(AV.list 1 x.1 none), (AV.v (.int .i64 x.2))]
  bs := fun x => []
  ret := fun y => ⟨(AV.v (.int .i64 y)), [], none, [], [], []⟩
  t := fun x α k => (match F27_d N x.1 with | some y1 => (match (!y1) with | true => (k 0) | false => (match F22_d N (x.2, 0, 9007199254740992) with | some y2 => (match (!y2) with | true => (k 0) | false => (match F42_d N (x.1, (i64 (x.2.tdiv 1000000))) with | some y3 => (k y3.1) | none => none)) | none => none)) | none => none)
noncomputable abbrev F30_d (N : Nat) (x : (List (List AV)) × Int) : Option (Int) := (F30_s N).d x
theorem F30_parF (N : Nat) : ParF (F30_s N).t := by
  intro x α β k k' r r' h h1
  revert h
  dsimp only [F30_s]
  (repeat' (first | (with_reducible refine par_ite ?_ ?_) | (with_reducible refine par_both ?_ ?_) | split)) <;> intro h <;> first | exact h1 _ h | (cases h; done)
theorem F30_text (N : Nat) (x : (F30_s N).X) : acall (tabOf Tryd.prog) (F30_g N) F30_an (lam N []) Tryd.f30 (F30_s N).S ((F30_s N).args x) ((F30_s N).bs x) = (F30_s N).t x Ret (fun y => some ((F30_s N).ret y)) := by kernel_rfl
theorem F30_pat (N : Nat) (a : List AV) (b : List (List AV)) (x : (F30_s N).X) (h : (F30_s N).pat a b = some x) : a = (F30_s N).args x ∧ b = (F30_s N).bs x := by
  dsimp only [F30_s] at h
  split at h
  · cases h; exact ⟨rfl, rfl⟩
  · cases h
noncomputable def F30_e (N : Nat) : Ent Tryd.prog := entOf (tabOf_ok Tryd.prog) (gam_ok _) mixed 30 Tryd.f30 Tryd.func30 rfl F30_an (lam N []) (by
    have e : actOf F30_an (Tryd.f30.body.getD .skip) 0 = [] := by kernel_rfl
    rw [e]
    intro p hp
    cases hp) (F30_s N) (fun _ => ⟨rfl, rfl⟩) (F30_text N) (F30_pat N) (F30_parF N)
/-! ### seismonet/seismonetref01.digits (function 43) -/
def F43_an : Nat → Keep × Keep := anL [(5, ⟨[0, 1, 5, 6], [], [], [], [], [], [], [], false⟩, ⟨[5], [], [], [], [], [], [], [], false⟩)]
noncomputable def F43_g (N : Nat) : GamK := gam (P := Tryd.prog) []
noncomputable def F43_l5 (N : Nat) : LSpec where
  X := Int × Int × ByteArray × Int
  Y := (ByteArray)
  p := fun s => match s.env.length, s.nin, s.at 0, s.at 1, s.at 5, s.at 6 with
    | 23, 0, (AV.v (.int .i64 a0)), (AV.v (.int .i64 a1)), (AV.v (.string a2)), (AV.v (.int .i64 a3)) => some (a0, a1, a2, a3)
    | _, _, _, _, _, _ => none
  st := fun x => mkS 23 [(0, (AV.v (.int .i64 x.1))), (1, (AV.v (.int .i64 x.2.1))), (5, (AV.v (.string x.2.2.1))), (6, (AV.v (.int .i64 x.2.2.2)))] [] (F43_an 5).1.toks 0
  out := fun y => (.exit 0, mkS 23 [(5, (AV.v (.string y)))] [] (F43_an 5).2.toks 0)
  sp := fun y α k => k (.exit 0, mkS 23 [(5, (AV.v (.string y)))] [] (F43_an 5).2.toks 0)
  spe := fun y α k => rfl
  b := fun x α kn ke => (match (decide (x.2.2.2 < x.2.1)) with | true => (match numsOf ([[(AV.v (.int .u8 (IntKind.u8.wrap (i64 (48 + (x.1.tmod 10))))))]]) with | some s1 => (if (strOfNums s1).size + x.2.2.1.size ≤ 9223372036854775807 then (kn ((i64 (x.1.tdiv 10)), x.2.1, ((strOfNums s1) ++ x.2.2.1), (i64 (x.2.2.2 + 1)))) else none) | none => none) | false => (ke x.2.2.1))
noncomputable abbrev F43_d5 (N : Nat) (x : Int × Int × ByteArray × Int) : Option ((ByteArray)) := (F43_l5 N).L N x
noncomputable def F43_s (N : Nat) : FSpec where
  X := Int × Int
  Y := ByteArray
  ash := [[none], [none]]
  bsh := []
  S := ⟨[[none]], [], [], [], []⟩
  bm := false
  pat := fun a b => match a, b with
    | [(AV.v (.int .i64 a0)), (AV.v (.int .i64 a1))], [] => some (a0, a1)
    | _, _ => none
  args := fun x => [(AV.v (.int .i64 x.1)), (AV.v (.int .i64 x.2))]
  bs := fun x => []
  ret := fun y => ⟨(AV.v (.string y)), [], none, [], [], []⟩
  t := fun x α k => (match F43_d5 N (x.1, x.2, (⟨#[]⟩ : ByteArray), 0) with | some y2 => (k y2) | none => none)
noncomputable abbrev F43_d (N : Nat) (x : Int × Int) : Option (ByteArray) := (F43_s N).d x
theorem F43_par5 (N : Nat) : Par (F43_l5 N).b := by
  intro x α β kn ke kn' ke' r r' h h1 h2
  revert h
  dsimp only [F43_l5]
  (repeat' (first | (with_reducible refine par_ite ?_ ?_) | (with_reducible refine par_both ?_ ?_) | split)) <;> intro h <;> first | exact h1 _ h | exact h2 _ h | (cases h; done)
theorem F43_body5 (N : Nat) (x : (F43_l5 N).X) (α : Type) (kn : AS → Option α) (ke : Out → Option α) : around (tabOf Tryd.prog) (F43_g N) F43_an (lam N [(5, F43_l5 N)]) 5 (bodyOf (nthLoop 5 (Tryd.f43.body.getD .skip))) ((F43_l5 N).st x) kn ke = (F43_l5 N).b x α (fun x' => kn ((F43_l5 N).st x')) (fun y => (F43_l5 N).sp y α ke) := by kernel_rfl
theorem F43_pat5 (N : Nat) (s : AS) (x : (F43_l5 N).X) (hc : s = canon (F43_an 5).1 s) (h : (F43_l5 N).p s = some x) : s = (F43_l5 N).st x := by
  dsimp only [F43_l5] at h
  split at h
  · cases h
    exact canon_mk hc ‹_› ‹_› rfl rfl rfl ⟨‹_›, ‹_›, ‹_›, ‹_›, trivial⟩ trivial
  · cases h
theorem F43_loop5 (N : Nat) : ∀ s o, s = canon (F43_an 5).1 s → (lam N [(5, F43_l5 N)]).v 5 s = some o → LoopSem Tryd.prog (nthLoop 5 (Tryd.f43.body.getD .skip)) s o :=
  loop_ok (tabOf_ok Tryd.prog) (gam_ok _) mixed F43_an N [(5, F43_l5 N)] 5 (bodyOf (nthLoop 5 (Tryd.f43.body.getD .skip))) (nthLoop 5 (Tryd.f43.body.getD .skip)) (by kernel_rfl) (by
    have e : actOf F43_an (bodyOf (nthLoop 5 (Tryd.f43.body.getD .skip))) (5 + 1) = [] := by kernel_rfl
    rw [e]
    intro p hp
    cases hp) (F43_l5 N) rfl (fun s x hc h => F43_pat5 N s x hc h) (fun x => rfl) (fun x α kn ke => (F43_body5 N x α kn ke).trans (congrArg ((F43_l5 N).b x α _) (funext fun y => (F43_l5 N).spe y α ke))) (F43_par5 N)
theorem F43_parF (N : Nat) : ParF (F43_s N).t := by
  intro x α β k k' r r' h h1
  revert h
  dsimp only [F43_s]
  (repeat' (first | (with_reducible refine par_ite ?_ ?_) | (with_reducible refine par_both ?_ ?_) | split)) <;> intro h <;> first | exact h1 _ h | (cases h; done)
theorem F43_text (N : Nat) (x : (F43_s N).X) : acall (tabOf Tryd.prog) (F43_g N) F43_an (lam N [(5, F43_l5 N)]) Tryd.f43 (F43_s N).S ((F43_s N).args x) ((F43_s N).bs x) = (F43_s N).t x Ret (fun y => some ((F43_s N).ret y)) := by kernel_rfl
theorem F43_pat (N : Nat) (a : List AV) (b : List (List AV)) (x : (F43_s N).X) (h : (F43_s N).pat a b = some x) : a = (F43_s N).args x ∧ b = (F43_s N).bs x := by
  dsimp only [F43_s] at h
  split at h
  · cases h; exact ⟨rfl, rfl⟩
  · cases h
noncomputable def F43_e (N : Nat) : Ent Tryd.prog := entOf (tabOf_ok Tryd.prog) (gam_ok _) mixed 43 Tryd.f43 Tryd.func43 rfl F43_an (lam N [(5, F43_l5 N)]) (by
    have e : actOf F43_an (Tryd.f43.body.getD .skip) 0 = [(5, nthLoop 5 (Tryd.f43.body.getD .skip))] := by kernel_rfl
    rw [e]
    intro p hp
    rcases List.mem_cons.1 hp with rfl | hp
    · exact F43_loop5 N
    cases hp) (F43_s N) (fun _ => ⟨rfl, rfl⟩) (F43_text N) (F43_pat N) (F43_parF N)
/-! ### seismonet/seismonetref01.Format (function 29) -/
def F29_an : Nat → Keep × Keep := anL []
noncomputable def F29_g (N : Nat) : GamK := gam (P := Tryd.prog) [F28_e N, F43_e N]
noncomputable def F29_s (N : Nat) : FSpec where
  X := (List (List AV)) × Int
  Y := ByteArray × Int
  ash := [[some 1], [none]]
  bsh := []
  S := ⟨[[none], [none]], [], [], [], []⟩
  bm := false
  pat := fun a b => match a, b with
    | [(AV.list 1 a0 none), (AV.v (.int .i64 a1))], [] => some (a0, a1)
    | _, _ => none
  args := fun x => [(AV.list 1 x.1 none), (AV.v (.int .i64 x.2))]
  bs := fun x => []
  ret := fun y => ⟨(AV.tup [(AV.v (.string y.1)), (AV.v (.int .i64 y.2))]), [], none, [], [], []⟩
  t := fun x α k => (match F28_d N (x.1, x.2) with | some y1 => (match (y1.2.2.2.2.2.2.2 != 0) with | true => (k ((⟨#[]⟩ : ByteArray), y1.2.2.2.2.2.2.2)) | false => (match F43_d N (y1.1, 4) with | some y2 => (if y2.size + (⟨#[45]⟩ : ByteArray).size ≤ 9223372036854775807 then (match F43_d N (y1.2.1, 2) with | some y3 => (if (y2 ++ (⟨#[45]⟩ : ByteArray)).size + y3.size ≤ 9223372036854775807 then (if ((y2 ++ (⟨#[45]⟩ : ByteArray)) ++ y3).size + (⟨#[45]⟩ : ByteArray).size ≤ 9223372036854775807 then (match F43_d N (y1.2.2.1, 2) with | some y4 => (if (((y2 ++ (⟨#[45]⟩ : ByteArray)) ++ y3) ++ (⟨#[45]⟩ : ByteArray)).size + y4.size ≤ 9223372036854775807 then (if ((((y2 ++ (⟨#[45]⟩ : ByteArray)) ++ y3) ++ (⟨#[45]⟩ : ByteArray)) ++ y4).size + (⟨#[84]⟩ : ByteArray).size ≤ 9223372036854775807 then (match F43_d N (y1.2.2.2.1, 2) with | some y5 => (if (((((y2 ++ (⟨#[45]⟩ : ByteArray)) ++ y3) ++ (⟨#[45]⟩ : ByteArray)) ++ y4) ++ (⟨#[84]⟩ : ByteArray)).size + y5.size ≤ 9223372036854775807 then (if ((((((y2 ++ (⟨#[45]⟩ : ByteArray)) ++ y3) ++ (⟨#[45]⟩ : ByteArray)) ++ y4) ++ (⟨#[84]⟩ : ByteArray)) ++ y5).size + (⟨#[58]⟩ : ByteArray).size ≤ 9223372036854775807 then (match F43_d N (y1.2.2.2.2.1, 2) with | some y6 => (if (((((((y2 ++ (⟨#[45]⟩ : ByteArray)) ++ y3) ++ (⟨#[45]⟩ : ByteArray)) ++ y4) ++ (⟨#[84]⟩ : ByteArray)) ++ y5) ++ (⟨#[58]⟩ : ByteArray)).size + y6.size ≤ 9223372036854775807 then (if ((((((((y2 ++ (⟨#[45]⟩ : ByteArray)) ++ y3) ++ (⟨#[45]⟩ : ByteArray)) ++ y4) ++ (⟨#[84]⟩ : ByteArray)) ++ y5) ++ (⟨#[58]⟩ : ByteArray)) ++ y6).size + (⟨#[58]⟩ : ByteArray).size ≤ 9223372036854775807 then (match F43_d N (y1.2.2.2.2.2.1, 2) with | some y7 => (if (((((((((y2 ++ (⟨#[45]⟩ : ByteArray)) ++ y3) ++ (⟨#[45]⟩ : ByteArray)) ++ y4) ++ (⟨#[84]⟩ : ByteArray)) ++ y5) ++ (⟨#[58]⟩ : ByteArray)) ++ y6) ++ (⟨#[58]⟩ : ByteArray)).size + y7.size ≤ 9223372036854775807 then (if ((((((((((y2 ++ (⟨#[45]⟩ : ByteArray)) ++ y3) ++ (⟨#[45]⟩ : ByteArray)) ++ y4) ++ (⟨#[84]⟩ : ByteArray)) ++ y5) ++ (⟨#[58]⟩ : ByteArray)) ++ y6) ++ (⟨#[58]⟩ : ByteArray)) ++ y7).size + (⟨#[46]⟩ : ByteArray).size ≤ 9223372036854775807 then (match F43_d N (y1.2.2.2.2.2.2.1, 6) with | some y8 => (if (((((((((((y2 ++ (⟨#[45]⟩ : ByteArray)) ++ y3) ++ (⟨#[45]⟩ : ByteArray)) ++ y4) ++ (⟨#[84]⟩ : ByteArray)) ++ y5) ++ (⟨#[58]⟩ : ByteArray)) ++ y6) ++ (⟨#[58]⟩ : ByteArray)) ++ y7) ++ (⟨#[46]⟩ : ByteArray)).size + y8.size ≤ 9223372036854775807 then (if ((((((((((((y2 ++ (⟨#[45]⟩ : ByteArray)) ++ y3) ++ (⟨#[45]⟩ : ByteArray)) ++ y4) ++ (⟨#[84]⟩ : ByteArray)) ++ y5) ++ (⟨#[58]⟩ : ByteArray)) ++ y6) ++ (⟨#[58]⟩ : ByteArray)) ++ y7) ++ (⟨#[46]⟩ : ByteArray)) ++ y8).size + (⟨#[90]⟩ : ByteArray).size ≤ 9223372036854775807 then (k ((((((((((((((y2 ++ (⟨#[45]⟩ : ByteArray)) ++ y3) ++ (⟨#[45]⟩ : ByteArray)) ++ y4) ++ (⟨#[84]⟩ : ByteArray)) ++ y5) ++ (⟨#[58]⟩ : ByteArray)) ++ y6) ++ (⟨#[58]⟩ : ByteArray)) ++ y7) ++ (⟨#[46]⟩ : ByteArray)) ++ y8) ++ (⟨#[90]⟩ : ByteArray)), 0)) else none) else none) | none => none) else none) else none) | none => none) else none) else none) | none => none) else none) else none) | none => none) else none) else none) | none => none) else none) else none) | none => none) else none) | none => none)) | none => none)
noncomputable abbrev F29_d (N : Nat) (x : (List (List AV)) × Int) : Option (ByteArray × Int) := (F29_s N).d x
theorem F29_parF (N : Nat) : ParF (F29_s N).t := by
  intro x α β k k' r r' h h1
  revert h
  dsimp only [F29_s]
  (repeat' (first | (with_reducible refine par_ite ?_ ?_) | (with_reducible refine par_both ?_ ?_) | split)) <;> intro h <;> first | exact h1 _ h | (cases h; done)
theorem F29_text (N : Nat) (x : (F29_s N).X) : acall (tabOf Tryd.prog) (F29_g N) F29_an (lam N []) Tryd.f29 (F29_s N).S ((F29_s N).args x) ((F29_s N).bs x) = (F29_s N).t x Ret (fun y => some ((F29_s N).ret y)) := by kernel_rfl
theorem F29_pat (N : Nat) (a : List AV) (b : List (List AV)) (x : (F29_s N).X) (h : (F29_s N).pat a b = some x) : a = (F29_s N).args x ∧ b = (F29_s N).bs x := by
  dsimp only [F29_s] at h
  split at h
  · cases h; exact ⟨rfl, rfl⟩
  · cases h
noncomputable def F29_e (N : Nat) : Ent Tryd.prog := entOf (tabOf_ok Tryd.prog) (gam_ok _) mixed 29 Tryd.f29 Tryd.func29 rfl F29_an (lam N []) (by
    have e : actOf F29_an (Tryd.f29.body.getD .skip) 0 = [] := by kernel_rfl
    rw [e]
    intro p hp
    cases hp) (F29_s N) (fun _ => ⟨rfl, rfl⟩) (F29_text N) (F29_pat N) (F29_parF N)
/-! ### seismonet/seismonetref01.FromCivil (function 33) -/
def F33_an : Nat → Keep × Keep := anL [(18, ⟨[3, 8, 9, 10], [], [3], [(0, 1)], [], [], [], [], false⟩, ⟨[3, 9], [], [3], [], [], [], [], [], false⟩), (32, ⟨[3, 8, 9, 11], [], [3], [(0, 1)], [], [], [], [], false⟩, ⟨[3, 9], [], [3], [], [], [], [], [], false⟩)]
noncomputable def F33_g (N : Nat) : GamK := gam (P := Tryd.prog) [F27_e N, F9_e N, F22_e N]
noncomputable def F33_l32 (N : Nat) : LSpec where
  X := (List (List AV)) × Int × Int × Int × Int × Int × Int × Int × Int × Int × Int
  Y := (Int × Int × Int × Int × Int × Int × Int × Int)
  p := fun s => match s.env.length, s.nin, s.at 0, s.at 3, s.at 8, s.at 9, s.at 11, s.bx 3 with
    | 129, 0, (AV.list 1 a0 none), (AV.ptr 3 0), (AV.v (.int .i64 a1)), (AV.v (.int .i64 a2)), (AV.v (.int .i64 a3)), some [(AV.v (.int .i64 a4)), (AV.v (.int .i64 a5)), (AV.v (.int .i64 a6)), (AV.v (.int .i64 a7)), (AV.v (.int .i64 a8)), (AV.v (.int .i64 a9)), (AV.v (.int .i64 a10))] => some (a0, a1, a2, a3, a4, a5, a6, a7, a8, a9, a10)
    | _, _, _, _, _, _, _, _ => none
  st := fun x => mkS 129 [(0, (AV.list 1 x.1 none)), (3, (AV.ptr 3 0)), (8, (AV.v (.int .i64 x.2.1))), (9, (AV.v (.int .i64 x.2.2.1))), (11, (AV.v (.int .i64 x.2.2.2.1)))] [(3, [(AV.v (.int .i64 x.2.2.2.2.1)), (AV.v (.int .i64 x.2.2.2.2.2.1)), (AV.v (.int .i64 x.2.2.2.2.2.2.1)), (AV.v (.int .i64 x.2.2.2.2.2.2.2.1)), (AV.v (.int .i64 x.2.2.2.2.2.2.2.2.1)), (AV.v (.int .i64 x.2.2.2.2.2.2.2.2.2.1)), (AV.v (.int .i64 x.2.2.2.2.2.2.2.2.2.2))])] (F33_an 32).1.toks 0
  out := fun y => (.exit 2, mkS 129 [(3, (AV.ptr 3 0)), (9, (AV.v (.int .i64 y.1)))] [(3, [(AV.v (.int .i64 y.2.1)), (AV.v (.int .i64 y.2.2.1)), (AV.v (.int .i64 y.2.2.2.1)), (AV.v (.int .i64 y.2.2.2.2.1)), (AV.v (.int .i64 y.2.2.2.2.2.1)), (AV.v (.int .i64 y.2.2.2.2.2.2.1)), (AV.v (.int .i64 y.2.2.2.2.2.2.2))])] (F33_an 32).2.toks 0)
  sp := fun y α k => k (.exit 2, mkS 129 [(3, (AV.ptr 3 0)), (9, (AV.v (.int .i64 y.1)))] [(3, [(AV.v (.int .i64 y.2.1)), (AV.v (.int .i64 y.2.2.1)), (AV.v (.int .i64 y.2.2.2.1)), (AV.v (.int .i64 y.2.2.2.2.1)), (AV.v (.int .i64 y.2.2.2.2.2.1)), (AV.v (.int .i64 y.2.2.2.2.2.2.1)), (AV.v (.int .i64 y.2.2.2.2.2.2.2))])] (F33_an 32).2.toks 0)
  spe := fun y α k => rfl
  b := fun x α kn ke => (match (decide (x.2.2.2.1 < (x.1.length : Int))) with | true => (if 0 ≤ x.2.2.2.1 then (match x.1[x.2.2.2.1.toNat]? with | some c28 => (match c28[0]? with | some x29 => (match x29 with | .v (.int q31 n30) => (if q31 = .i64 then (match (decide ((i64 (n30 - x.2.2.2.1)) ≤ x.2.1)) with | true => (kn (x.1, x.2.1, (i64 (x.2.2.1 + 1)), (i64 (x.2.2.2.1 + 1)), x.2.2.2.2.1, x.2.2.2.2.2.1, x.2.2.2.2.2.2.1, x.2.2.2.2.2.2.2.1, x.2.2.2.2.2.2.2.2.1, x.2.2.2.2.2.2.2.2.2.1, x.2.2.2.2.2.2.2.2.2.2)) | false => (kn (x.1, x.2.1, x.2.2.1, (i64 (x.2.2.2.1 + 1)), x.2.2.2.2.1, x.2.2.2.2.2.1, x.2.2.2.2.2.2.1, x.2.2.2.2.2.2.2.1, x.2.2.2.2.2.2.2.2.1, x.2.2.2.2.2.2.2.2.2.1, x.2.2.2.2.2.2.2.2.2.2))) else none) | _ => none) | none => none) | none => none) else none) | false => (ke (x.2.2.1, x.2.2.2.2.1, x.2.2.2.2.2.1, x.2.2.2.2.2.2.1, x.2.2.2.2.2.2.2.1, x.2.2.2.2.2.2.2.2.1, x.2.2.2.2.2.2.2.2.2.1, x.2.2.2.2.2.2.2.2.2.2)))
noncomputable abbrev F33_d32 (N : Nat) (x : (List (List AV)) × Int × Int × Int × Int × Int × Int × Int × Int × Int × Int) : Option ((Int × Int × Int × Int × Int × Int × Int × Int)) := (F33_l32 N).L N x
noncomputable def F33_l18 (N : Nat) : LSpec where
  X := (List (List AV)) × Int × Int × Int × Int × Int × Int × Int × Int × Int × Int
  Y := (Int × Int × Int × Int × Int × Int × Int × Int)
  p := fun s => match s.env.length, s.nin, s.at 0, s.at 3, s.at 8, s.at 9, s.at 10, s.bx 3 with
    | 129, 0, (AV.list 1 a0 none), (AV.ptr 3 0), (AV.v (.int .i64 a1)), (AV.v (.int .i64 a2)), (AV.v (.int .i64 a3)), some [(AV.v (.int .i64 a4)), (AV.v (.int .i64 a5)), (AV.v (.int .i64 a6)), (AV.v (.int .i64 a7)), (AV.v (.int .i64 a8)), (AV.v (.int .i64 a9)), (AV.v (.int .i64 a10))] => some (a0, a1, a2, a3, a4, a5, a6, a7, a8, a9, a10)
    | _, _, _, _, _, _, _, _ => none
  st := fun x => mkS 129 [(0, (AV.list 1 x.1 none)), (3, (AV.ptr 3 0)), (8, (AV.v (.int .i64 x.2.1))), (9, (AV.v (.int .i64 x.2.2.1))), (10, (AV.v (.int .i64 x.2.2.2.1)))] [(3, [(AV.v (.int .i64 x.2.2.2.2.1)), (AV.v (.int .i64 x.2.2.2.2.2.1)), (AV.v (.int .i64 x.2.2.2.2.2.2.1)), (AV.v (.int .i64 x.2.2.2.2.2.2.2.1)), (AV.v (.int .i64 x.2.2.2.2.2.2.2.2.1)), (AV.v (.int .i64 x.2.2.2.2.2.2.2.2.2.1)), (AV.v (.int .i64 x.2.2.2.2.2.2.2.2.2.2))])] (F33_an 18).1.toks 0
  out := fun y => (.exit 0, mkS 129 [(3, (AV.ptr 3 0)), (9, (AV.v (.int .i64 y.1)))] [(3, [(AV.v (.int .i64 y.2.1)), (AV.v (.int .i64 y.2.2.1)), (AV.v (.int .i64 y.2.2.2.1)), (AV.v (.int .i64 y.2.2.2.2.1)), (AV.v (.int .i64 y.2.2.2.2.2.1)), (AV.v (.int .i64 y.2.2.2.2.2.2.1)), (AV.v (.int .i64 y.2.2.2.2.2.2.2))])] (F33_an 18).2.toks 0)
  sp := fun y α k => k (.exit 0, mkS 129 [(3, (AV.ptr 3 0)), (9, (AV.v (.int .i64 y.1)))] [(3, [(AV.v (.int .i64 y.2.1)), (AV.v (.int .i64 y.2.2.1)), (AV.v (.int .i64 y.2.2.2.1)), (AV.v (.int .i64 y.2.2.2.2.1)), (AV.v (.int .i64 y.2.2.2.2.2.1)), (AV.v (.int .i64 y.2.2.2.2.2.2.1)), (AV.v (.int .i64 y.2.2.2.2.2.2.2))])] (F33_an 18).2.toks 0)
  spe := fun y α k => rfl
  b := fun x α kn ke => (match (decide (x.2.2.2.1 < (x.1.length : Int))) with | true => (if 0 ≤ x.2.2.2.1 then (match x.1[x.2.2.2.1.toNat]? with | some c15 => (match c15[0]? with | some x16 => (match x16 with | .v (.int q18 n17) => (if q18 = .i64 then (match ((i64 (n17 - x.2.2.2.1)) == x.2.1) with | true => (match (x.2.2.2.2.2.2.2.1 == 23) with | true => (match (x.2.2.2.2.2.2.2.2.1 == 59) with | true => (if 0 ≤ x.2.2.2.1 then (match x.1[x.2.2.2.1.toNat]? with | some c19 => (match c19[0]? with | some x20 => (match x20 with | .v (.int q22 n21) => (if q22 = .i64 then (kn (x.1, x.2.1, n21, (i64 (x.2.2.2.1 + 1)), x.2.2.2.2.1, x.2.2.2.2.2.1, x.2.2.2.2.2.2.1, x.2.2.2.2.2.2.2.1, x.2.2.2.2.2.2.2.2.1, x.2.2.2.2.2.2.2.2.2.1, x.2.2.2.2.2.2.2.2.2.2)) else none) | _ => none) | none => none) | none => none) else none) | false => (kn (x.1, x.2.1, x.2.2.1, (i64 (x.2.2.2.1 + 1)), x.2.2.2.2.1, x.2.2.2.2.2.1, x.2.2.2.2.2.2.1, x.2.2.2.2.2.2.2.1, x.2.2.2.2.2.2.2.2.1, x.2.2.2.2.2.2.2.2.2.1, x.2.2.2.2.2.2.2.2.2.2))) | false => (kn (x.1, x.2.1, x.2.2.1, (i64 (x.2.2.2.1 + 1)), x.2.2.2.2.1, x.2.2.2.2.2.1, x.2.2.2.2.2.2.1, x.2.2.2.2.2.2.2.1, x.2.2.2.2.2.2.2.2.1, x.2.2.2.2.2.2.2.2.2.1, x.2.2.2.2.2.2.2.2.2.2))) | false => (kn (x.1, x.2.1, x.2.2.1, (i64 (x.2.2.2.1 + 1)), x.2.2.2.2.1, x.2.2.2.2.2.1, x.2.2.2.2.2.2.1, x.2.2.2.2.2.2.2.1, x.2.2.2.2.2.2.2.2.1, x.2.2.2.2.2.2.2.2.2.1, x.2.2.2.2.2.2.2.2.2.2))) else none) | _ => none) | none => none) | none => none) else none) | false => (ke (x.2.2.1, x.2.2.2.2.1, x.2.2.2.2.2.1, x.2.2.2.2.2.2.1, x.2.2.2.2.2.2.2.1, x.2.2.2.2.2.2.2.2.1, x.2.2.2.2.2.2.2.2.2.1, x.2.2.2.2.2.2.2.2.2.2)))
noncomputable abbrev F33_d18 (N : Nat) (x : (List (List AV)) × Int × Int × Int × Int × Int × Int × Int × Int × Int × Int) : Option ((Int × Int × Int × Int × Int × Int × Int × Int)) := (F33_l18 N).L N x
noncomputable def F33_s (N : Nat) : FSpec where
  X := (List (List AV)) × Int × Int × Int × Int × Int × Int × Int
  Y := Int × Int
  ash := [[some 1], [none, none, none, none, none, none, none]]
  bsh := []
  S := ⟨[[none], [none]], [], [], [], []⟩
  bm := false
  pat := fun a b => match a, b with
    | [(AV.list 1 a0 none), (AV.agg [(AV.v (.int .i64 a1)), (AV.v (.int .i64 a2)), (AV.v (.int .i64 a3)), (AV.v (.int .i64 a4)), (AV.v (.int .i64 a5)), (AV.v (.int .i64 a6)), (AV.v (.int .i64 a7))])], [] => some (a0, a1, a2, a3, a4, a5, a6, a7)
    | _, _ => none
  args := fun x => [(AV.list 1 x.1 none), (AV.agg [(AV.v (.int .i64 x.2.1)), (AV.v (.int .i64 x.2.2.1)), (AV.v (.int .i64 x.2.2.2.1)), (AV.v (.int .i64 x.2.2.2.2.1)), (AV.v (.int .i64 x.2.2.2.2.2.1)), (AV.v (.int .i64 x.2.2.2.2.2.2.1)), (AV.v (.int .i64 x.2.2.2.2.2.2.2))])]
  bs := fun x => []
  ret := fun y => ⟨(AV.tup [(AV.v (.int .i64 y.1)), (AV.v (.int .i64 y.2))]), [], none, [], [], []⟩
  t := fun x α k => (match F27_d N x.1 with | some y1 => (match (!y1) with | true => (k (0, 1)) | false => (match F9_d N (x.2.1, x.2.2.1, x.2.2.2.1) with | some y2 => (match (!y2.2) with | true => (k (0, 2)) | false => (match F22_d N (x.2.2.2.2.1, 0, 23) with | some y3 => (match (!y3) with | true => (k (0, 2)) | false => (match F22_d N (x.2.2.2.2.2.1, 0, 59) with | some y4 => (match (!y4) with | true => (k (0, 2)) | false => (match F22_d N (x.2.2.2.2.2.2.1, 0, 60) with | some y5 => (match (!y5) with | true => (k (0, 2)) | false => (match F22_d N (x.2.2.2.2.2.2.2, 0, 999999) with | some y6 => (match (!y6) with | true => (k (0, 2)) | false => (match (x.2.2.2.2.2.2.1 == 60) with | true => (match F33_d18 N (x.1, (i64 ((i64 ((i64 ((i64 (y2.1 * 86400)) + (i64 (x.2.2.2.2.1 * 3600)))) + (i64 (x.2.2.2.2.2.1 * 60)))) + x.2.2.2.2.2.2.1)), (-1), 0, x.2.1, x.2.2.1, x.2.2.2.1, x.2.2.2.2.1, x.2.2.2.2.2.1, x.2.2.2.2.2.2.1, x.2.2.2.2.2.2.2) with | some y23 => (match (decide (y23.1 < 0)) with | true => (k (0, 6)) | false => (match (decide (y23.1 > 9007199254)) with | true => (k (0, 2)) | false => (match (decide ((i64 ((i64 (y23.1 * 1000000)) + y23.2.2.2.2.2.2.2)) > 9007199254740992)) with | true => (k (0, 2)) | false => (k ((i64 ((i64 (y23.1 * 1000000)) + y23.2.2.2.2.2.2.2)), 0))))) | none => none) | false => (match F33_d32 N (x.1, (i64 ((i64 ((i64 ((i64 (y2.1 * 86400)) + (i64 (x.2.2.2.2.1 * 3600)))) + (i64 (x.2.2.2.2.2.1 * 60)))) + x.2.2.2.2.2.2.1)), (i64 ((i64 ((i64 ((i64 (y2.1 * 86400)) + (i64 (x.2.2.2.2.1 * 3600)))) + (i64 (x.2.2.2.2.2.1 * 60)))) + x.2.2.2.2.2.2.1)), 0, x.2.1, x.2.2.1, x.2.2.2.1, x.2.2.2.2.1, x.2.2.2.2.2.1, x.2.2.2.2.2.2.1, x.2.2.2.2.2.2.2) with | some y32 => (match (decide (y32.1 > 9007199254)) with | true => (k (0, 2)) | false => (match (decide ((i64 ((i64 (y32.1 * 1000000)) + y32.2.2.2.2.2.2.2)) > 9007199254740992)) with | true => (k (0, 2)) | false => (k ((i64 ((i64 (y32.1 * 1000000)) + y32.2.2.2.2.2.2.2)), 0)))) | none => none))) | none => none)) | none => none)) | none => none)) | none => none)) | none => none)) | none => none)
noncomputable abbrev F33_d (N : Nat) (x : (List (List AV)) × Int × Int × Int × Int × Int × Int × Int) : Option (Int × Int) := (F33_s N).d x
theorem F33_par32 (N : Nat) : Par (F33_l32 N).b := by
  intro x α β kn ke kn' ke' r r' h h1 h2
  revert h
  dsimp only [F33_l32]
  (repeat' (first | (with_reducible refine par_ite ?_ ?_) | (with_reducible refine par_both ?_ ?_) | split)) <;> intro h <;> first | exact h1 _ h | exact h2 _ h | (cases h; done)
theorem F33_body32 (N : Nat) (x : (F33_l32 N).X) (α : Type) (kn : AS → Option α) (ke : Out → Option α) : around (tabOf Tryd.prog) (F33_g N) F33_an (lam N [(18, F33_l18 N), (32, F33_l32 N)]) 32 (bodyOf (nthLoop 32 (Tryd.f33.body.getD .skip))) ((F33_l32 N).st x) kn ke = (F33_l32 N).b x α (fun x' => kn ((F33_l32 N).st x')) (fun y => (F33_l32 N).sp y α ke) := by kernel_rfl
theorem F33_pat32 (N : Nat) (s : AS) (x : (F33_l32 N).X) (hc : s = canon (F33_an 32).1 s) (h : (F33_l32 N).p s = some x) : s = (F33_l32 N).st x := by
  dsimp only [F33_l32] at h
  split at h
  · cases h
    exact canon_mk hc ‹_› ‹_› rfl rfl rfl ⟨‹_›, ‹_›, ‹_›, ‹_›, ‹_›, trivial⟩ ⟨‹_›, trivial⟩
  · cases h
theorem F33_loop32 (N : Nat) : ∀ s o, s = canon (F33_an 32).1 s → (lam N [(18, F33_l18 N), (32, F33_l32 N)]).v 32 s = some o → LoopSem Tryd.prog (nthLoop 32 (Tryd.f33.body.getD .skip)) s o :=
  loop_ok (tabOf_ok Tryd.prog) (gam_ok _) mixed F33_an N [(18, F33_l18 N), (32, F33_l32 N)] 32 (bodyOf (nthLoop 32 (Tryd.f33.body.getD .skip))) (nthLoop 32 (Tryd.f33.body.getD .skip)) (by kernel_rfl) (by
    have e : actOf F33_an (bodyOf (nthLoop 32 (Tryd.f33.body.getD .skip))) (32 + 1) = [] := by kernel_rfl
    rw [e]
    intro p hp
    cases hp) (F33_l32 N) rfl (fun s x hc h => F33_pat32 N s x hc h) (fun x => rfl) (fun x α kn ke => (F33_body32 N x α kn ke).trans (congrArg ((F33_l32 N).b x α _) (funext fun y => (F33_l32 N).spe y α ke))) (F33_par32 N)
theorem F33_par18 (N : Nat) : Par (F33_l18 N).b := by
  intro x α β kn ke kn' ke' r r' h h1 h2
  revert h
  dsimp only [F33_l18]
  (repeat' (first | (with_reducible refine par_ite ?_ ?_) | (with_reducible refine par_both ?_ ?_) | split)) <;> intro h <;> first | exact h1 _ h | exact h2 _ h | (cases h; done)
theorem F33_body18 (N : Nat) (x : (F33_l18 N).X) (α : Type) (kn : AS → Option α) (ke : Out → Option α) : around (tabOf Tryd.prog) (F33_g N) F33_an (lam N [(18, F33_l18 N), (32, F33_l32 N)]) 18 (bodyOf (nthLoop 18 (Tryd.f33.body.getD .skip))) ((F33_l18 N).st x) kn ke = (F33_l18 N).b x α (fun x' => kn ((F33_l18 N).st x')) (fun y => (F33_l18 N).sp y α ke) := by kernel_rfl
theorem F33_pat18 (N : Nat) (s : AS) (x : (F33_l18 N).X) (hc : s = canon (F33_an 18).1 s) (h : (F33_l18 N).p s = some x) : s = (F33_l18 N).st x := by
  dsimp only [F33_l18] at h
  split at h
  · cases h
    exact canon_mk hc ‹_› ‹_› rfl rfl rfl ⟨‹_›, ‹_›, ‹_›, ‹_›, ‹_›, trivial⟩ ⟨‹_›, trivial⟩
  · cases h
theorem F33_loop18 (N : Nat) : ∀ s o, s = canon (F33_an 18).1 s → (lam N [(18, F33_l18 N), (32, F33_l32 N)]).v 18 s = some o → LoopSem Tryd.prog (nthLoop 18 (Tryd.f33.body.getD .skip)) s o :=
  loop_ok (tabOf_ok Tryd.prog) (gam_ok _) mixed F33_an N [(18, F33_l18 N), (32, F33_l32 N)] 18 (bodyOf (nthLoop 18 (Tryd.f33.body.getD .skip))) (nthLoop 18 (Tryd.f33.body.getD .skip)) (by kernel_rfl) (by
    have e : actOf F33_an (bodyOf (nthLoop 18 (Tryd.f33.body.getD .skip))) (18 + 1) = [] := by kernel_rfl
    rw [e]
    intro p hp
    cases hp) (F33_l18 N) rfl (fun s x hc h => F33_pat18 N s x hc h) (fun x => rfl) (fun x α kn ke => (F33_body18 N x α kn ke).trans (congrArg ((F33_l18 N).b x α _) (funext fun y => (F33_l18 N).spe y α ke))) (F33_par18 N)
theorem F33_parF (N : Nat) : ParF (F33_s N).t := by
  intro x α β k k' r r' h h1
  revert h
  dsimp only [F33_s]
  (repeat' (first | (with_reducible refine par_ite ?_ ?_) | (with_reducible refine par_both ?_ ?_) | split)) <;> intro h <;> first | exact h1 _ h | (cases h; done)
theorem F33_text (N : Nat) (x : (F33_s N).X) : acall (tabOf Tryd.prog) (F33_g N) F33_an (lam N [(18, F33_l18 N), (32, F33_l32 N)]) Tryd.f33 (F33_s N).S ((F33_s N).args x) ((F33_s N).bs x) = (F33_s N).t x Ret (fun y => some ((F33_s N).ret y)) := by kernel_rfl
theorem F33_pat (N : Nat) (a : List AV) (b : List (List AV)) (x : (F33_s N).X) (h : (F33_s N).pat a b = some x) : a = (F33_s N).args x ∧ b = (F33_s N).bs x := by
  dsimp only [F33_s] at h
  split at h
  · cases h; exact ⟨rfl, rfl⟩
  · cases h
noncomputable def F33_e (N : Nat) : Ent Tryd.prog := entOf (tabOf_ok Tryd.prog) (gam_ok _) mixed 33 Tryd.f33 Tryd.func33 rfl F33_an (lam N [(18, F33_l18 N), (32, F33_l32 N)]) (by
    have e : actOf F33_an (Tryd.f33.body.getD .skip) 0 = [(18, nthLoop 18 (Tryd.f33.body.getD .skip)), (32, nthLoop 32 (Tryd.f33.body.getD .skip))] := by kernel_rfl
    rw [e]
    intro p hp
    rcases List.mem_cons.1 hp with rfl | hp
    · exact F33_loop18 N
    rcases List.mem_cons.1 hp with rfl | hp
    · exact F33_loop32 N
    cases hp) (F33_s N) (fun _ => ⟨rfl, rfl⟩) (F33_text N) (F33_pat N) (F33_parF N)
end Go.Proofs.YtaanjciokdpkmaaDoor
/- Functions without memory. (written by sx.py) -/
namespace Go.Proofs.YtaanjciokdpkmaaDoor
open Go.RowKit
set_option linter.unusedVariables false
set_option linter.unusedSimpArgs false
set_option linter.unnecessarySimpa false
set_option maxRecDepth 4000
/-! ### seismonet/seismonetref01.Parse (function 31) -/
def F31_an : Nat → Keep × Keep := anL [(14, ⟨[1, 6, 7, 8], [], [6], [(0, 1)], [], [], [], [6], false⟩, ⟨[4, 5, 6], [], [6], [(0, 1)], [], [], [], [6], false⟩)]
noncomputable def F31_g (N : Nat) : GamK := gam (P := Tryd.prog) [F27_e N, F33_e N]
noncomputable def F31_l14 (N : Nat) : LSpec where
  X := (List (List AV)) × ByteArray × Int × Int × (List AV)
  Y := ((List (List AV)) × Int × Int × (List AV)) ⊕ ((List (List AV)) × (List AV))
  p := fun s => match s.env.length, s.nin, s.at 0, s.at 1, s.at 6, s.at 7, s.at 8, s.bx 6 with
    | 71, 0, (AV.list 1 a0 none), (AV.v (.string a1)), (AV.ptr 6 0), (AV.v (.int .i64 a2)), (AV.v (.int .i64 a3)), some a4 => some (a0, a1, a2, a3, a4)
    | _, _, _, _, _, _, _, _ => none
  st := fun x => mkS 71 [(0, (AV.list 1 x.1 none)), (1, (AV.v (.string x.2.1))), (6, (AV.ptr 6 0)), (7, (AV.v (.int .i64 x.2.2.1))), (8, (AV.v (.int .i64 x.2.2.2.1)))] [(6, x.2.2.2.2)] (F31_an 14).1.toks 0
  out := fun y => match y with
    | .inl y => (.ret, mkS 71 [(0, (AV.list 1 y.1 none)), (4, (AV.v (.int .i64 y.2.1))), (5, (AV.v (.int .i64 y.2.2.1))), (6, (AV.ptr 6 0))] [(6, y.2.2.2)] (F31_an 14).2.toks 0)
    | .inr y => (.exit 0, mkS 71 [(0, (AV.list 1 y.1 none)), (6, (AV.ptr 6 0))] [(6, y.2)] (F31_an 14).2.toks 0)
  sp := fun y α k => match y with
    | .inl y => k (.ret, mkS 71 [(0, (AV.list 1 y.1 none)), (4, (AV.v (.int .i64 y.2.1))), (5, (AV.v (.int .i64 y.2.2.1))), (6, (AV.ptr 6 0))] [(6, y.2.2.2)] (F31_an 14).2.toks 0)
    | .inr y => k (.exit 0, mkS 71 [(0, (AV.list 1 y.1 none)), (6, (AV.ptr 6 0))] [(6, y.2)] (F31_an 14).2.toks 0)
  spe := fun y α k => by rcases y with _ | _ <;> rfl
  b := fun x α kn ke => (match (decide (x.2.2.2.1 < 27)) with | true => (if 0 ≤ x.2.2.2.1 then (match (⟨#[48, 48, 48, 48, 45, 48, 48, 45, 48, 48, 84, 48, 48, 58, 48, 48, 58, 48, 48, 46, 48, 48, 48, 48, 48, 48, 90]⟩ : ByteArray)[x.2.2.2.1.toNat]? with | some c11 => (match ((c11.toNat : Int) != 48) with | true => (if 0 ≤ x.2.2.2.1 then (match x.2.1[x.2.2.2.1.toNat]? with | some c12 => (if 0 ≤ x.2.2.2.1 then (match (⟨#[48, 48, 48, 48, 45, 48, 48, 45, 48, 48, 84, 48, 48, 58, 48, 48, 58, 48, 48, 46, 48, 48, 48, 48, 48, 48, 90]⟩ : ByteArray)[x.2.2.2.1.toNat]? with | some c13 => (match ((c12.toNat : Int) != (c13.toNat : Int)) with | true => (ke (.inl (x.1, 0, 3, (x.2.2.2.2.map dat0)))) | false => (kn (x.1, x.2.1, (i64 (x.2.2.1 + 1)), (i64 (x.2.2.2.1 + 1)), (x.2.2.2.2.map dat0)))) | none => none) else none) | none => none) else none) | false => (if 0 ≤ x.2.2.2.1 then (match x.2.1[x.2.2.2.1.toNat]? with | some c14 => (match (decide ((c14.toNat : Int) < 48)) with | true => (ke (.inl (x.1, 0, 3, (x.2.2.2.2.map dat0)))) | false => (if 0 ≤ x.2.2.2.1 then (match x.2.1[x.2.2.2.1.toNat]? with | some c15 => (match (decide ((c15.toNat : Int) > 57)) with | true => (ke (.inl (x.1, 0, 3, (x.2.2.2.2.map dat0)))) | false => (if 0 ≤ x.2.2.1 ∧ x.2.2.1 < 7 then (match x.2.2.2.2[(0 + x.2.2.1.toNat * 1)]? with | some x16 => (match x16 with | .v (.int q18 n17) => (if q18 = .i64 then (if 0 ≤ x.2.2.2.1 then (match x.2.1[x.2.2.2.1.toNat]? with | some c19 => (if 0 ≤ x.2.2.1 ∧ x.2.2.1 < 7 then (if (0 + x.2.2.1.toNat * 1) + 1 ≤ x.2.2.2.2.length then (kn (x.1, x.2.1, x.2.2.1, (i64 (x.2.2.2.1 + 1)), ((x.2.2.2.2.set ((0 + x.2.2.1.toNat * 1)) (AV.v (.int .i64 (i64 ((i64 (10 * n17)) + (IntKind.i64.wrap (IntKind.u8.wrap ((c19.toNat : Int) - 48)))))))).map dat0))) else none) else none) | none => none) else none) else none) | _ => none) | none => none) else none)) | none => none) else none)) | none => none) else none)) | none => none) else none) | false => (ke (.inr (x.1, (x.2.2.2.2.map dat0)))))
noncomputable abbrev F31_d14 (N : Nat) (x : (List (List AV)) × ByteArray × Int × Int × (List AV)) : Option (((List (List AV)) × Int × Int × (List AV)) ⊕ ((List (List AV)) × (List AV))) := (F31_l14 N).L N x
noncomputable def F31_s (N : Nat) : FSpec where
  X := (List (List AV)) × ByteArray
  Y := Int × Int
  ash := [[some 1], [none]]
  bsh := []
  S := ⟨[[none], [none]], [], [], [], []⟩
  bm := false
  pat := fun a b => match a, b with
    | [(AV.list 1 a0 none), (AV.v (.string a1))], [] => some (a0, a1)
    | _, _ => none
  args := fun x => [(AV.list 1 x.1 none), (AV.v (.string x.2))]
  bs := fun x => []
  ret := fun y => ⟨(AV.tup [(AV.v (.int .i64 y.1)), (AV.v (.int .i64 y.2))]), [], none, [], [], []⟩
  t := fun x α k => (match F27_d N x.1 with | some y1 => (match (!y1) with | true => (k (0, 1)) | false => (match ((x.2.size : Int) != 27) with | true => (k (0, 3)) | false => (match F31_d14 N (x.1, x.2, 0, 0, ([(AV.v (.int .i64 0)), (AV.v (.int .i64 0)), (AV.v (.int .i64 0)), (AV.v (.int .i64 0)), (AV.v (.int .i64 0)), (AV.v (.int .i64 0)), (AV.v (.int .i64 0))].map dat0)) with | some y20 => (match y20 with | .inl z21 => (k (z21.2.1, z21.2.2.1)) | .inr z22 => (match z22.2[0]? with | some x23 => (match x23 with | .v (.int q25 n24) => (if q25 = .i64 then (match z22.2[1]? with | some x26 => (match x26 with | .v (.int q28 n27) => (if q28 = .i64 then (match z22.2[2]? with | some x29 => (match x29 with | .v (.int q31 n30) => (if q31 = .i64 then (match z22.2[3]? with | some x32 => (match x32 with | .v (.int q34 n33) => (if q34 = .i64 then (match z22.2[4]? with | some x35 => (match x35 with | .v (.int q37 n36) => (if q37 = .i64 then (match z22.2[5]? with | some x38 => (match x38 with | .v (.int q40 n39) => (if q40 = .i64 then (match z22.2[6]? with | some x41 => (match x41 with | .v (.int q43 n42) => (if q43 = .i64 then (match F33_d N (z22.1, n24, n27, n30, n33, n36, n39, n42) with | some y44 => (k (y44.1, y44.2)) | none => none) else none) | _ => none) | none => none) else none) | _ => none) | none => none) else none) | _ => none) | none => none) else none) | _ => none) | none => none) else none) | _ => none) | none => none) else none) | _ => none) | none => none) else none) | _ => none) | none => none)) | none => none))) | none => none)
noncomputable abbrev F31_d (N : Nat) (x : (List (List AV)) × ByteArray) : Option (Int × Int) := (F31_s N).d x
theorem F31_par14 (N : Nat) : Par (F31_l14 N).b := by
  intro x α β kn ke kn' ke' r r' h h1 h2
  revert h
  dsimp only [F31_l14]
  (repeat' (first | (with_reducible refine par_ite ?_ ?_) | (with_reducible refine par_both ?_ ?_) | split)) <;> intro h <;> first | exact h1 _ h | exact h2 _ h | (cases h; done)
theorem F31_body14 (N : Nat) (x : (F31_l14 N).X) (α : Type) (kn : AS → Option α) (ke : Out → Option α) : around (tabOf Tryd.prog) (F31_g N) F31_an (lam N [(14, F31_l14 N)]) 14 (bodyOf (nthLoop 14 (Tryd.f31.body.getD .skip))) ((F31_l14 N).st x) kn ke = (F31_l14 N).b x α (fun x' => kn ((F31_l14 N).st x')) (fun y => (F31_l14 N).sp y α ke) := by kernel_rfl
theorem F31_pat14 (N : Nat) (s : AS) (x : (F31_l14 N).X) (hc : s = canon (F31_an 14).1 s) (h : (F31_l14 N).p s = some x) : s = (F31_l14 N).st x := by
  dsimp only [F31_l14] at h
  split at h
  · cases h
    exact canon_mk hc ‹_› ‹_› rfl rfl rfl ⟨‹_›, ‹_›, ‹_›, ‹_›, ‹_›, trivial⟩ ⟨‹_›, trivial⟩
  · cases h
theorem F31_loop14 (N : Nat) : ∀ s o, s = canon (F31_an 14).1 s → (lam N [(14, F31_l14 N)]).v 14 s = some o → LoopSem Tryd.prog (nthLoop 14 (Tryd.f31.body.getD .skip)) s o :=
  loop_ok (tabOf_ok Tryd.prog) (gam_ok _) mixed F31_an N [(14, F31_l14 N)] 14 (bodyOf (nthLoop 14 (Tryd.f31.body.getD .skip))) (nthLoop 14 (Tryd.f31.body.getD .skip)) (by kernel_rfl) (by
    have e : actOf F31_an (bodyOf (nthLoop 14 (Tryd.f31.body.getD .skip))) (14 + 1) = [] := by kernel_rfl
    rw [e]
    intro p hp
    cases hp) (F31_l14 N) rfl (fun s x hc h => F31_pat14 N s x hc h) (fun x => rfl) (fun x α kn ke => (F31_body14 N x α kn ke).trans (congrArg ((F31_l14 N).b x α _) (funext fun y => (F31_l14 N).spe y α ke))) (F31_par14 N)
theorem F31_parF (N : Nat) : ParF (F31_s N).t := by
  intro x α β k k' r r' h h1
  revert h
  dsimp only [F31_s]
  (repeat' (first | (with_reducible refine par_ite ?_ ?_) | (with_reducible refine par_both ?_ ?_) | split)) <;> intro h <;> first | exact h1 _ h | (cases h; done)
theorem F31_text (N : Nat) (x : (F31_s N).X) : acall (tabOf Tryd.prog) (F31_g N) F31_an (lam N [(14, F31_l14 N)]) Tryd.f31 (F31_s N).S ((F31_s N).args x) ((F31_s N).bs x) = (F31_s N).t x Ret (fun y => some ((F31_s N).ret y)) := by kernel_rfl
theorem F31_pat (N : Nat) (a : List AV) (b : List (List AV)) (x : (F31_s N).X) (h : (F31_s N).pat a b = some x) : a = (F31_s N).args x ∧ b = (F31_s N).bs x := by
  dsimp only [F31_s] at h
  split at h
  · cases h; exact ⟨rfl, rfl⟩
  · cases h
noncomputable def F31_e (N : Nat) : Ent Tryd.prog := entOf (tabOf_ok Tryd.prog) (gam_ok _) mixed 31 Tryd.f31 Tryd.func31 rfl F31_an (lam N [(14, F31_l14 N)]) (by
    have e : actOf F31_an (Tryd.f31.body.getD .skip) 0 = [(14, nthLoop 14 (Tryd.f31.body.getD .skip))] := by kernel_rfl
    rw [e]
    intro p hp
    rcases List.mem_cons.1 hp with rfl | hp
    · exact F31_loop14 N
    cases hp) (F31_s N) (fun _ => ⟨rfl, rfl⟩) (F31_text N) (F31_pat N) (F31_parF N)
end Go.Proofs.YtaanjciokdpkmaaDoor
/- Functions without memory. (written by sx.py) -/
namespace Go.Proofs.YtaanjciokdpkmaaDoor
open Go.RowKit
set_option linter.unusedVariables false
set_option linter.unusedSimpArgs false
set_option linter.unnecessarySimpa false
set_option maxRecDepth 4000
/-! ### (*seismonet/seismonetmade.Dice).Civil (function 32) -/
def F32_an : Nat → Keep × Keep := anL []
noncomputable def F32_g (N : Nat) : GamK := gam (P := Tryd.prog) [F25_e N, F19_e N]
noncomputable def F32_s (N : Nat) : FSpec where
  X := (List (List AV)) × Int
  Y := Int × Int × Int × Int × Int × Int × Int × (List (List AV)) × Int
  ash := [[none]]
  bsh := [[some 1, none]]
  S := ⟨[[none, none, none, none, none, none, none]], [[some 1, none]], [], [], []⟩
  bm := false
  pat := fun a b => match a, b with
    | [(AV.ptr 0 0)], [[(AV.list 1 a0 none), (AV.v (.int .i64 a1))]] => some (a0, a1)
    | _, _ => none
  args := fun x => [(AV.ptr 0 0)]
  bs := fun x => [[(AV.list 1 x.1 none), (AV.v (.int .i64 x.2))]]
  ret := fun y => ⟨(AV.agg [(AV.v (.int .i64 y.1)), (AV.v (.int .i64 y.2.1)), (AV.v (.int .i64 y.2.2.1)), (AV.v (.int .i64 y.2.2.2.1)), (AV.v (.int .i64 y.2.2.2.2.1)), (AV.v (.int .i64 y.2.2.2.2.2.1)), (AV.v (.int .i64 y.2.2.2.2.2.2.1))]), [[(AV.list 1 y.2.2.2.2.2.2.2.1 none), (AV.v (.int .i64 y.2.2.2.2.2.2.2.2))]], none, [], [], []⟩
  t := fun x α k => (match F25_d N ([[(AV.v (.int .i64 1970))], [(AV.v (.int .i64 1970))], [(AV.v (.int .i64 1971))], [(AV.v (.int .i64 2016))], [(AV.v (.int .i64 2255))], [(AV.v (.int .i64 1969))], [(AV.v (.int .i64 2300))]], x.1, x.2) with | some y1 => (match F19_d N (12, y1.2.1, y1.2.2) with | some y2 => (match F25_d N ([[(AV.v (.int .i64 1))], [(AV.v (.int .i64 2))], [(AV.v (.int .i64 3))], [(AV.v (.int .i64 28))], [(AV.v (.int .i64 29))], [(AV.v (.int .i64 30))], [(AV.v (.int .i64 31))], [(AV.v (.int .i64 32))], [(AV.v (.int .i64 0))]], y2.2.1, y2.2.2) with | some y3 => (match F25_d N ([[(AV.v (.int .i64 23))], [(AV.v (.int .i64 0))], [(AV.v (.int .i64 12))], [(AV.v (.int .i64 24))], [(AV.v (.int .i64 (-1)))]], y3.2.1, y3.2.2) with | some y4 => (match F25_d N ([[(AV.v (.int .i64 59))], [(AV.v (.int .i64 0))], [(AV.v (.int .i64 30))], [(AV.v (.int .i64 60))]], y4.2.1, y4.2.2) with | some y5 => (match F25_d N ([[(AV.v (.int .i64 59))], [(AV.v (.int .i64 60))], [(AV.v (.int .i64 0))], [(AV.v (.int .i64 61))]], y5.2.1, y5.2.2) with | some y6 => (match F25_d N ([[(AV.v (.int .i64 0))], [(AV.v (.int .i64 999999))], [(AV.v (.int .i64 5))], [(AV.v (.int .i64 1000000))], [(AV.v (.int .i64 (-1)))]], y6.2.1, y6.2.2) with | some y7 => (match F19_d N (3, y7.2.1, y7.2.2) with | some y8 => (match (decide (y8.1 > 0)) with | true => (match F19_d N (2, y8.2.1, y8.2.2) with | some y9 => (match F19_d N (2, y9.2.1, y9.2.2) with | some y10 => (k (1970, 1, y3.1, 23, 59, (i64 (59 + y9.1)), y10.1, y10.2.1, y10.2.2)) | none => none) | none => none) | false => (k (y1.1, (i64 (1 + y2.1)), y3.1, y4.1, y5.1, y6.1, y7.1, y8.2.1, y8.2.2))) | none => none) | none => none) | none => none) | none => none) | none => none) | none => none) | none => none) | none => none)
noncomputable abbrev F32_d (N : Nat) (x : (List (List AV)) × Int) : Option (Int × Int × Int × Int × Int × Int × Int × (List (List AV)) × Int) := (F32_s N).d x
theorem F32_parF (N : Nat) : ParF (F32_s N).t := by
  intro x α β k k' r r' h h1
  revert h
  dsimp only [F32_s]
  (repeat' (first | (with_reducible refine par_ite ?_ ?_) | (with_reducible refine par_both ?_ ?_) | split)) <;> intro h <;> first | exact h1 _ h | (cases h; done)
theorem F32_text (N : Nat) (x : (F32_s N).X) : acall (tabOf Tryd.prog) (F32_g N) F32_an (lam N []) Tryd.f32 (F32_s N).S ((F32_s N).args x) ((F32_s N).bs x) = (F32_s N).t x Ret (fun y => some ((F32_s N).ret y)) := by kernel_rfl
theorem F32_pat (N : Nat) (a : List AV) (b : List (List AV)) (x : (F32_s N).X) (h : (F32_s N).pat a b = some x) : a = (F32_s N).args x ∧ b = (F32_s N).bs x := by
  dsimp only [F32_s] at h
  split at h
  · cases h; exact ⟨rfl, rfl⟩
  · cases h
noncomputable def F32_e (N : Nat) : Ent Tryd.prog := entOf (tabOf_ok Tryd.prog) (gam_ok _) mixed 32 Tryd.f32 Tryd.func32 rfl F32_an (lam N []) (by
    have e : actOf F32_an (Tryd.f32.body.getD .skip) 0 = [] := by kernel_rfl
    rw [e]
    intro p hp
    cases hp) (F32_s N) (fun _ => ⟨rfl, rfl⟩) (F32_text N) (F32_pat N) (F32_parF N)
/-! ### seismonet/seismonetlaw01.UtcExact (function 7) -/
def F7_an : Nat → Keep × Keep := anL [(11, ⟨[2, 4, 8, 11, 68, 69], [], [8, 54], [(12, 1), (67, 1)], [], [], [], [], false⟩, ⟨[10], [], [], [], [], [], [], [], false⟩), (25, ⟨[2, 4, 8, 11, 68, 69, 82, 83], [], [8, 54], [(12, 1), (15, 1), (67, 1), (81, 1)], [], [], [], [], false⟩, ⟨[2, 4, 8, 10, 11, 68, 69], [], [8, 54], [(12, 1), (15, 1), (67, 1)], [], [], [], [], false⟩), (41, ⟨[2, 4, 8, 11, 22, 68, 69, 82, 83], [], [8, 54], [(12, 1), (15, 1), (67, 1), (81, 1)], [], [], [], [], true⟩, ⟨[2, 4, 8, 11, 22, 68, 69, 82, 83], [], [8, 54], [(12, 1), (15, 1), (67, 1), (81, 1)], [], [], [], [], false⟩), (46, ⟨[2, 4, 8, 11, 68, 69, 82, 83, 166, 167], [], [8, 54], [(12, 1), (15, 1), (67, 1), (81, 1), (165, 1)], [], [], [], [], false⟩, ⟨[2, 4, 8, 10, 11, 68, 69, 82, 83], [], [8, 54], [(12, 1), (15, 1), (67, 1), (81, 1)], [], [], [], [], false⟩), (60, ⟨[2, 4, 8, 11, 68, 69, 201, 202], [], [8, 54], [(12, 1), (15, 1), (67, 1), (200, 7)], [], [], [], [], false⟩, ⟨[2, 4, 8, 10, 11, 68, 69], [], [8, 54], [(12, 1), (67, 1)], [], [], [], [], false⟩)]
noncomputable def F7_g (N : Nat) : GamK := gam (P := Tryd.prog) [F13_e N, F12_e N, F14_e N, F15_e N, F25_e N, F26_e N, F27_e N, F20_e N, F18_e N, F28_e N, F16_e N, F29_e N, F17_e N, F30_e N, F19_e N, F24_e N, F31_e N, F32_e N, F23_e N, F33_e N]
noncomputable def F7_l60 (N : Nat) : LSpec where
  X := (List (List AV)) × (List (List AV)) × (List (List AV)) × (List (List AV)) × Int × ByteArray × Int × Int × Int × Int × Int × Int × Int × Int × Int × Int × Int × (List (List AV)) × Int
  Y := ((List (List AV)) × (List (List AV)) × Int × ByteArray × Bool × Int × Int × Int × Int × Int × Int × Int × Int × Int × (List (List AV)) × Int) ⊕ ((List (List AV)) × (List (List AV)) × Int × ByteArray × Int × Int × Int × Int × Int × Int × Int × Int × Int × (List (List AV)) × Int)
  p := fun s => match s.env.length, s.nin, s.at 12, s.at 15, s.at 67, s.at 200, s.at 2, s.at 4, s.at 8, s.at 11, s.at 68, s.at 69, s.at 201, s.at 202, s.bx 8, s.bx 54 with
    | 229, 0, (AV.list 1 a0 none), (AV.list 1 a1 none), (AV.list 1 a2 none), (AV.list 7 a3 none), (AV.v (.int .i64 a4)), (AV.v (.string a5)), (AV.ptr 8 0), (AV.ptr 54 0), (AV.v (.int .i64 a6)), (AV.v (.int .i64 a7)), (AV.v (.int .i64 a8)), (AV.v (.int .i64 a9)), some [(AV.v (.int .i64 a10)), (AV.v (.int .i64 a11)), (AV.v (.int .i64 a12)), (AV.v (.int .i64 a13)), (AV.v (.int .i64 a14)), (AV.v (.int .i64 a15)), (AV.v (.int .i64 a16))], some [(AV.list 1 a17 none), (AV.v (.int .i64 a18))] => some (a0, a1, a2, a3, a4, a5, a6, a7, a8, a9, a10, a11, a12, a13, a14, a15, a16, a17, a18)
    | _, _, _, _, _, _, _, _, _, _, _, _, _, _, _, _ => none
  st := fun x => mkS 229 [(12, (AV.list 1 x.1 none)), (15, (AV.list 1 x.2.1 none)), (67, (AV.list 1 x.2.2.1 none)), (200, (AV.list 7 x.2.2.2.1 none)), (2, (AV.v (.int .i64 x.2.2.2.2.1))), (4, (AV.v (.string x.2.2.2.2.2.1))), (8, (AV.ptr 8 0)), (11, (AV.ptr 54 0)), (68, (AV.v (.int .i64 x.2.2.2.2.2.2.1))), (69, (AV.v (.int .i64 x.2.2.2.2.2.2.2.1))), (201, (AV.v (.int .i64 x.2.2.2.2.2.2.2.2.1))), (202, (AV.v (.int .i64 x.2.2.2.2.2.2.2.2.2.1)))] [(8, [(AV.v (.int .i64 x.2.2.2.2.2.2.2.2.2.2.1)), (AV.v (.int .i64 x.2.2.2.2.2.2.2.2.2.2.2.1)), (AV.v (.int .i64 x.2.2.2.2.2.2.2.2.2.2.2.2.1)), (AV.v (.int .i64 x.2.2.2.2.2.2.2.2.2.2.2.2.2.1)), (AV.v (.int .i64 x.2.2.2.2.2.2.2.2.2.2.2.2.2.2.1)), (AV.v (.int .i64 x.2.2.2.2.2.2.2.2.2.2.2.2.2.2.2.1)), (AV.v (.int .i64 x.2.2.2.2.2.2.2.2.2.2.2.2.2.2.2.2.1))]), (54, [(AV.list 1 x.2.2.2.2.2.2.2.2.2.2.2.2.2.2.2.2.2.1 none), (AV.v (.int .i64 x.2.2.2.2.2.2.2.2.2.2.2.2.2.2.2.2.2.2))])] (F7_an 60).1.toks 0
  out := fun y => match y with
    | .inl y => (.ret, mkS 229 [(12, (AV.list 1 y.1 none)), (67, (AV.list 1 y.2.1 none)), (2, (AV.v (.int .i64 y.2.2.1))), (4, (AV.v (.string y.2.2.2.1))), (8, (AV.ptr 8 0)), (10, (AV.v (.bool y.2.2.2.2.1))), (11, (AV.ptr 54 0)), (68, (AV.v (.int .i64 y.2.2.2.2.2.1))), (69, (AV.v (.int .i64 y.2.2.2.2.2.2.1)))] [(8, [(AV.v (.int .i64 y.2.2.2.2.2.2.2.1)), (AV.v (.int .i64 y.2.2.2.2.2.2.2.2.1)), (AV.v (.int .i64 y.2.2.2.2.2.2.2.2.2.1)), (AV.v (.int .i64 y.2.2.2.2.2.2.2.2.2.2.1)), (AV.v (.int .i64 y.2.2.2.2.2.2.2.2.2.2.2.1)), (AV.v (.int .i64 y.2.2.2.2.2.2.2.2.2.2.2.2.1)), (AV.v (.int .i64 y.2.2.2.2.2.2.2.2.2.2.2.2.2.1))]), (54, [(AV.list 1 y.2.2.2.2.2.2.2.2.2.2.2.2.2.2.1 none), (AV.v (.int .i64 y.2.2.2.2.2.2.2.2.2.2.2.2.2.2.2))])] (F7_an 60).2.toks 0)
    | .inr y => (.exit 6, mkS 229 [(12, (AV.list 1 y.1 none)), (67, (AV.list 1 y.2.1 none)), (2, (AV.v (.int .i64 y.2.2.1))), (4, (AV.v (.string y.2.2.2.1))), (8, (AV.ptr 8 0)), (11, (AV.ptr 54 0)), (68, (AV.v (.int .i64 y.2.2.2.2.1))), (69, (AV.v (.int .i64 y.2.2.2.2.2.1)))] [(8, [(AV.v (.int .i64 y.2.2.2.2.2.2.1)), (AV.v (.int .i64 y.2.2.2.2.2.2.2.1)), (AV.v (.int .i64 y.2.2.2.2.2.2.2.2.1)), (AV.v (.int .i64 y.2.2.2.2.2.2.2.2.2.1)), (AV.v (.int .i64 y.2.2.2.2.2.2.2.2.2.2.1)), (AV.v (.int .i64 y.2.2.2.2.2.2.2.2.2.2.2.1)), (AV.v (.int .i64 y.2.2.2.2.2.2.2.2.2.2.2.2.1))]), (54, [(AV.list 1 y.2.2.2.2.2.2.2.2.2.2.2.2.2.1 none), (AV.v (.int .i64 y.2.2.2.2.2.2.2.2.2.2.2.2.2.2))])] (F7_an 60).2.toks 0)
  sp := fun y α k => match y with
    | .inl y => k (.ret, mkS 229 [(12, (AV.list 1 y.1 none)), (67, (AV.list 1 y.2.1 none)), (2, (AV.v (.int .i64 y.2.2.1))), (4, (AV.v (.string y.2.2.2.1))), (8, (AV.ptr 8 0)), (10, (AV.v (.bool y.2.2.2.2.1))), (11, (AV.ptr 54 0)), (68, (AV.v (.int .i64 y.2.2.2.2.2.1))), (69, (AV.v (.int .i64 y.2.2.2.2.2.2.1)))] [(8, [(AV.v (.int .i64 y.2.2.2.2.2.2.2.1)), (AV.v (.int .i64 y.2.2.2.2.2.2.2.2.1)), (AV.v (.int .i64 y.2.2.2.2.2.2.2.2.2.1)), (AV.v (.int .i64 y.2.2.2.2.2.2.2.2.2.2.1)), (AV.v (.int .i64 y.2.2.2.2.2.2.2.2.2.2.2.1)), (AV.v (.int .i64 y.2.2.2.2.2.2.2.2.2.2.2.2.1)), (AV.v (.int .i64 y.2.2.2.2.2.2.2.2.2.2.2.2.2.1))]), (54, [(AV.list 1 y.2.2.2.2.2.2.2.2.2.2.2.2.2.2.1 none), (AV.v (.int .i64 y.2.2.2.2.2.2.2.2.2.2.2.2.2.2.2))])] (F7_an 60).2.toks 0)
    | .inr y => k (.exit 6, mkS 229 [(12, (AV.list 1 y.1 none)), (67, (AV.list 1 y.2.1 none)), (2, (AV.v (.int .i64 y.2.2.1))), (4, (AV.v (.string y.2.2.2.1))), (8, (AV.ptr 8 0)), (11, (AV.ptr 54 0)), (68, (AV.v (.int .i64 y.2.2.2.2.1))), (69, (AV.v (.int .i64 y.2.2.2.2.2.1)))] [(8, [(AV.v (.int .i64 y.2.2.2.2.2.2.1)), (AV.v (.int .i64 y.2.2.2.2.2.2.2.1)), (AV.v (.int .i64 y.2.2.2.2.2.2.2.2.1)), (AV.v (.int .i64 y.2.2.2.2.2.2.2.2.2.1)), (AV.v (.int .i64 y.2.2.2.2.2.2.2.2.2.2.1)), (AV.v (.int .i64 y.2.2.2.2.2.2.2.2.2.2.2.1)), (AV.v (.int .i64 y.2.2.2.2.2.2.2.2.2.2.2.2.1))]), (54, [(AV.list 1 y.2.2.2.2.2.2.2.2.2.2.2.2.2.1 none), (AV.v (.int .i64 y.2.2.2.2.2.2.2.2.2.2.2.2.2.2))])] (F7_an 60).2.toks 0)
  spe := fun y α k => by rcases y with _ | _ <;> rfl
  b := fun x α kn ke => (match (decide (x.2.2.2.2.2.2.2.2.2.1 < x.2.2.2.2.2.2.2.2.1)) with | true => (if 0 ≤ x.2.2.2.2.2.2.2.2.2.1 then (match x.2.2.2.1[x.2.2.2.2.2.2.2.2.2.1.toNat]? with | some c100 => (match c100[0]? with | some x101 => (match x101 with | .v (.int q103 n102) => (if q103 = .i64 then (match c100[1]? with | some x104 => (match x104 with | .v (.int q106 n105) => (if q106 = .i64 then (match c100[2]? with | some x107 => (match x107 with | .v (.int q109 n108) => (if q109 = .i64 then (match c100[3]? with | some x110 => (match x110 with | .v (.int q112 n111) => (if q112 = .i64 then (match c100[4]? with | some x113 => (match x113 with | .v (.int q115 n114) => (if q115 = .i64 then (match c100[5]? with | some x116 => (match x116 with | .v (.int q118 n117) => (if q118 = .i64 then (match c100[6]? with | some x119 => (match x119 with | .v (.int q121 n120) => (if q121 = .i64 then (match F23_d N (x.2.1, n102, n105, n108, n111, n114, n117, n120) with | some y122 => (match F33_d N (x.2.1, n102, n105, n108, n111, n114, n117, n120) with | some y123 => (match (y122.1 != y123.1) with | true => (ke (.inl (x.1, x.2.2.1, x.2.2.2.2.1, x.2.2.2.2.2.1, false, x.2.2.2.2.2.2.1, x.2.2.2.2.2.2.2.1, x.2.2.2.2.2.2.2.2.2.2.1, x.2.2.2.2.2.2.2.2.2.2.2.1, x.2.2.2.2.2.2.2.2.2.2.2.2.1, x.2.2.2.2.2.2.2.2.2.2.2.2.2.1, x.2.2.2.2.2.2.2.2.2.2.2.2.2.2.1, x.2.2.2.2.2.2.2.2.2.2.2.2.2.2.2.1, x.2.2.2.2.2.2.2.2.2.2.2.2.2.2.2.2.1, x.2.2.2.2.2.2.2.2.2.2.2.2.2.2.2.2.2.1, x.2.2.2.2.2.2.2.2.2.2.2.2.2.2.2.2.2.2))) | false => (match (y122.2 != y123.2) with | true => (ke (.inl (x.1, x.2.2.1, x.2.2.2.2.1, x.2.2.2.2.2.1, false, x.2.2.2.2.2.2.1, x.2.2.2.2.2.2.2.1, x.2.2.2.2.2.2.2.2.2.2.1, x.2.2.2.2.2.2.2.2.2.2.2.1, x.2.2.2.2.2.2.2.2.2.2.2.2.1, x.2.2.2.2.2.2.2.2.2.2.2.2.2.1, x.2.2.2.2.2.2.2.2.2.2.2.2.2.2.1, x.2.2.2.2.2.2.2.2.2.2.2.2.2.2.2.1, x.2.2.2.2.2.2.2.2.2.2.2.2.2.2.2.2.1, x.2.2.2.2.2.2.2.2.2.2.2.2.2.2.2.2.2.1, x.2.2.2.2.2.2.2.2.2.2.2.2.2.2.2.2.2.2))) | false => (kn (x.1, x.2.1, x.2.2.1, x.2.2.2.1, x.2.2.2.2.1, x.2.2.2.2.2.1, x.2.2.2.2.2.2.1, x.2.2.2.2.2.2.2.1, x.2.2.2.2.2.2.2.2.1, (i64 (x.2.2.2.2.2.2.2.2.2.1 + 1)), x.2.2.2.2.2.2.2.2.2.2.1, x.2.2.2.2.2.2.2.2.2.2.2.1, x.2.2.2.2.2.2.2.2.2.2.2.2.1, x.2.2.2.2.2.2.2.2.2.2.2.2.2.1, x.2.2.2.2.2.2.2.2.2.2.2.2.2.2.1, x.2.2.2.2.2.2.2.2.2.2.2.2.2.2.2.1, x.2.2.2.2.2.2.2.2.2.2.2.2.2.2.2.2.1, x.2.2.2.2.2.2.2.2.2.2.2.2.2.2.2.2.2.1, x.2.2.2.2.2.2.2.2.2.2.2.2.2.2.2.2.2.2)))) | none => none) | none => none) else none) | _ => none) | none => none) else none) | _ => none) | none => none) else none) | _ => none) | none => none) else none) | _ => none) | none => none) else none) | _ => none) | none => none) else none) | _ => none) | none => none) else none) | _ => none) | none => none) | none => none) else none) | false => (ke (.inr (x.1, x.2.2.1, x.2.2.2.2.1, x.2.2.2.2.2.1, x.2.2.2.2.2.2.1, x.2.2.2.2.2.2.2.1, x.2.2.2.2.2.2.2.2.2.2.1, x.2.2.2.2.2.2.2.2.2.2.2.1, x.2.2.2.2.2.2.2.2.2.2.2.2.1, x.2.2.2.2.2.2.2.2.2.2.2.2.2.1, x.2.2.2.2.2.2.2.2.2.2.2.2.2.2.1, x.2.2.2.2.2.2.2.2.2.2.2.2.2.2.2.1, x.2.2.2.2.2.2.2.2.2.2.2.2.2.2.2.2.1, x.2.2.2.2.2.2.2.2.2.2.2.2.2.2.2.2.2.1, x.2.2.2.2.2.2.2.2.2.2.2.2.2.2.2.2.2.2))))
noncomputable abbrev F7_d60 (N : Nat) (x : (List (List AV)) × (List (List AV)) × (List (List AV)) × (List (List AV)) × Int × ByteArray × Int × Int × Int × Int × Int × Int × Int × Int × Int × Int × Int × (List (List AV)) × Int) : Option (((List (List AV)) × (List (List AV)) × Int × ByteArray × Bool × Int × Int × Int × Int × Int × Int × Int × Int × Int × (List (List AV)) × Int) ⊕ ((List (List AV)) × (List (List AV)) × Int × ByteArray × Int × Int × Int × Int × Int × Int × Int × Int × Int × (List (List AV)) × Int)) := (F7_l60 N).L N x
noncomputable def F7_l46 (N : Nat) : LSpec where
  X := (List (List AV)) × (List (List AV)) × (List (List AV)) × (List (List AV)) × (List (List AV)) × Int × ByteArray × Int × Int × Int × Int × Int × Int × Int × Int × Int × Int × Int × Int × Int × (List (List AV)) × Int
  Y := ((List (List AV)) × (List (List AV)) × (List (List AV)) × (List (List AV)) × Int × ByteArray × Bool × Int × Int × Int × Int × Int × Int × Int × Int × Int × Int × Int × (List (List AV)) × Int) ⊕ ((List (List AV)) × (List (List AV)) × (List (List AV)) × (List (List AV)) × Int × ByteArray × Int × Int × Int × Int × Int × Int × Int × Int × Int × Int × Int × (List (List AV)) × Int)
  p := fun s => match s.env.length, s.nin, s.at 12, s.at 15, s.at 67, s.at 81, s.at 165, s.at 2, s.at 4, s.at 8, s.at 11, s.at 68, s.at 69, s.at 82, s.at 83, s.at 166, s.at 167, s.bx 8, s.bx 54 with
    | 229, 0, (AV.list 1 a0 none), (AV.list 1 a1 none), (AV.list 1 a2 none), (AV.list 1 a3 none), (AV.list 1 a4 none), (AV.v (.int .i64 a5)), (AV.v (.string a6)), (AV.ptr 8 0), (AV.ptr 54 0), (AV.v (.int .i64 a7)), (AV.v (.int .i64 a8)), (AV.v (.int .i64 a9)), (AV.v (.int .i64 a10)), (AV.v (.int .i64 a11)), (AV.v (.int .i64 a12)), some [(AV.v (.int .i64 a13)), (AV.v (.int .i64 a14)), (AV.v (.int .i64 a15)), (AV.v (.int .i64 a16)), (AV.v (.int .i64 a17)), (AV.v (.int .i64 a18)), (AV.v (.int .i64 a19))], some [(AV.list 1 a20 none), (AV.v (.int .i64 a21))] => some (a0, a1, a2, a3, a4, a5, a6, a7, a8, a9, a10, a11, a12, a13, a14, a15, a16, a17, a18, a19, a20, a21)
    | _, _, _, _, _, _, _, _, _, _, _, _, _, _, _, _, _, _, _ => none
  st := fun x => mkS 229 [(12, (AV.list 1 x.1 none)), (15, (AV.list 1 x.2.1 none)), (67, (AV.list 1 x.2.2.1 none)), (81, (AV.list 1 x.2.2.2.1 none)), (165, (AV.list 1 x.2.2.2.2.1 none)), (2, (AV.v (.int .i64 x.2.2.2.2.2.1))), (4, (AV.v (.string x.2.2.2.2.2.2.1))), (8, (AV.ptr 8 0)), (11, (AV.ptr 54 0)), (68, (AV.v (.int .i64 x.2.2.2.2.2.2.2.1))), (69, (AV.v (.int .i64 x.2.2.2.2.2.2.2.2.1))), (82, (AV.v (.int .i64 x.2.2.2.2.2.2.2.2.2.1))), (83, (AV.v (.int .i64 x.2.2.2.2.2.2.2.2.2.2.1))), (166, (AV.v (.int .i64 x.2.2.2.2.2.2.2.2.2.2.2.1))), (167, (AV.v (.int .i64 x.2.2.2.2.2.2.2.2.2.2.2.2.1)))] [(8, [(AV.v (.int .i64 x.2.2.2.2.2.2.2.2.2.2.2.2.2.1)), (AV.v (.int .i64 x.2.2.2.2.2.2.2.2.2.2.2.2.2.2.1)), (AV.v (.int .i64 x.2.2.2.2.2.2.2.2.2.2.2.2.2.2.2.1)), (AV.v (.int .i64 x.2.2.2.2.2.2.2.2.2.2.2.2.2.2.2.2.1)), (AV.v (.int .i64 x.2.2.2.2.2.2.2.2.2.2.2.2.2.2.2.2.2.1)), (AV.v (.int .i64 x.2.2.2.2.2.2.2.2.2.2.2.2.2.2.2.2.2.2.1)), (AV.v (.int .i64 x.2.2.2.2.2.2.2.2.2.2.2.2.2.2.2.2.2.2.2.1))]), (54, [(AV.list 1 x.2.2.2.2.2.2.2.2.2.2.2.2.2.2.2.2.2.2.2.2.1 none), (AV.v (.int .i64 x.2.2.2.2.2.2.2.2.2.2.2.2.2.2.2.2.2.2.2.2.2))])] (F7_an 46).1.toks 0
  out := fun y => match y with
    | .inl y => (.ret, mkS 229 [(12, (AV.list 1 y.1 none)), (15, (AV.list 1 y.2.1 none)), (67, (AV.list 1 y.2.2.1 none)), (81, (AV.list 1 y.2.2.2.1 none)), (2, (AV.v (.int .i64 y.2.2.2.2.1))), (4, (AV.v (.string y.2.2.2.2.2.1))), (8, (AV.ptr 8 0)), (10, (AV.v (.bool y.2.2.2.2.2.2.1))), (11, (AV.ptr 54 0)), (68, (AV.v (.int .i64 y.2.2.2.2.2.2.2.1))), (69, (AV.v (.int .i64 y.2.2.2.2.2.2.2.2.1))), (82, (AV.v (.int .i64 y.2.2.2.2.2.2.2.2.2.1))), (83, (AV.v (.int .i64 y.2.2.2.2.2.2.2.2.2.2.1)))] [(8, [(AV.v (.int .i64 y.2.2.2.2.2.2.2.2.2.2.2.1)), (AV.v (.int .i64 y.2.2.2.2.2.2.2.2.2.2.2.2.1)), (AV.v (.int .i64 y.2.2.2.2.2.2.2.2.2.2.2.2.2.1)), (AV.v (.int .i64 y.2.2.2.2.2.2.2.2.2.2.2.2.2.2.1)), (AV.v (.int .i64 y.2.2.2.2.2.2.2.2.2.2.2.2.2.2.2.1)), (AV.v (.int .i64 y.2.2.2.2.2.2.2.2.2.2.2.2.2.2.2.2.1)), (AV.v (.int .i64 y.2.2.2.2.2.2.2.2.2.2.2.2.2.2.2.2.2.1))]), (54, [(AV.list 1 y.2.2.2.2.2.2.2.2.2.2.2.2.2.2.2.2.2.2.1 none), (AV.v (.int .i64 y.2.2.2.2.2.2.2.2.2.2.2.2.2.2.2.2.2.2.2))])] (F7_an 46).2.toks 0)
    | .inr y => (.exit 4, mkS 229 [(12, (AV.list 1 y.1 none)), (15, (AV.list 1 y.2.1 none)), (67, (AV.list 1 y.2.2.1 none)), (81, (AV.list 1 y.2.2.2.1 none)), (2, (AV.v (.int .i64 y.2.2.2.2.1))), (4, (AV.v (.string y.2.2.2.2.2.1))), (8, (AV.ptr 8 0)), (11, (AV.ptr 54 0)), (68, (AV.v (.int .i64 y.2.2.2.2.2.2.1))), (69, (AV.v (.int .i64 y.2.2.2.2.2.2.2.1))), (82, (AV.v (.int .i64 y.2.2.2.2.2.2.2.2.1))), (83, (AV.v (.int .i64 y.2.2.2.2.2.2.2.2.2.1)))] [(8, [(AV.v (.int .i64 y.2.2.2.2.2.2.2.2.2.2.1)), (AV.v (.int .i64 y.2.2.2.2.2.2.2.2.2.2.2.1)), (AV.v (.int .i64 y.2.2.2.2.2.2.2.2.2.2.2.2.1)), (AV.v (.int .i64 y.2.2.2.2.2.2.2.2.2.2.2.2.2.1)), (AV.v (.int .i64 y.2.2.2.2.2.2.2.2.2.2.2.2.2.2.1)), (AV.v (.int .i64 y.2.2.2.2.2.2.2.2.2.2.2.2.2.2.2.1)), (AV.v (.int .i64 y.2.2.2.2.2.2.2.2.2.2.2.2.2.2.2.2.1))]), (54, [(AV.list 1 y.2.2.2.2.2.2.2.2.2.2.2.2.2.2.2.2.2.1 none), (AV.v (.int .i64 y.2.2.2.2.2.2.2.2.2.2.2.2.2.2.2.2.2.2))])] (F7_an 46).2.toks 0)
  sp := fun y α k => match y with
    | .inl y => k (.ret, mkS 229 [(12, (AV.list 1 y.1 none)), (15, (AV.list 1 y.2.1 none)), (67, (AV.list 1 y.2.2.1 none)), (81, (AV.list 1 y.2.2.2.1 none)), (2, (AV.v (.int .i64 y.2.2.2.2.1))), (4, (AV.v (.string y.2.2.2.2.2.1))), (8, (AV.ptr 8 0)), (10, (AV.v (.bool y.2.2.2.2.2.2.1))), (11, (AV.ptr 54 0)), (68, (AV.v (.int .i64 y.2.2.2.2.2.2.2.1))), (69, (AV.v (.int .i64 y.2.2.2.2.2.2.2.2.1))), (82, (AV.v (.int .i64 y.2.2.2.2.2.2.2.2.2.1))), (83, (AV.v (.int .i64 y.2.2.2.2.2.2.2.2.2.2.1)))] [(8, [(AV.v (.int .i64 y.2.2.2.2.2.2.2.2.2.2.2.1)), (AV.v (.int .i64 y.2.2.2.2.2.2.2.2.2.2.2.2.1)), (AV.v (.int .i64 y.2.2.2.2.2.2.2.2.2.2.2.2.2.1)), (AV.v (.int .i64 y.2.2.2.2.2.2.2.2.2.2.2.2.2.2.1)), (AV.v (.int .i64 y.2.2.2.2.2.2.2.2.2.2.2.2.2.2.2.1)), (AV.v (.int .i64 y.2.2.2.2.2.2.2.2.2.2.2.2.2.2.2.2.1)), (AV.v (.int .i64 y.2.2.2.2.2.2.2.2.2.2.2.2.2.2.2.2.2.1))]), (54, [(AV.list 1 y.2.2.2.2.2.2.2.2.2.2.2.2.2.2.2.2.2.2.1 none), (AV.v (.int .i64 y.2.2.2.2.2.2.2.2.2.2.2.2.2.2.2.2.2.2.2))])] (F7_an 46).2.toks 0)
    | .inr y => k (.exit 4, mkS 229 [(12, (AV.list 1 y.1 none)), (15, (AV.list 1 y.2.1 none)), (67, (AV.list 1 y.2.2.1 none)), (81, (AV.list 1 y.2.2.2.1 none)), (2, (AV.v (.int .i64 y.2.2.2.2.1))), (4, (AV.v (.string y.2.2.2.2.2.1))), (8, (AV.ptr 8 0)), (11, (AV.ptr 54 0)), (68, (AV.v (.int .i64 y.2.2.2.2.2.2.1))), (69, (AV.v (.int .i64 y.2.2.2.2.2.2.2.1))), (82, (AV.v (.int .i64 y.2.2.2.2.2.2.2.2.1))), (83, (AV.v (.int .i64 y.2.2.2.2.2.2.2.2.2.1)))] [(8, [(AV.v (.int .i64 y.2.2.2.2.2.2.2.2.2.2.1)), (AV.v (.int .i64 y.2.2.2.2.2.2.2.2.2.2.2.1)), (AV.v (.int .i64 y.2.2.2.2.2.2.2.2.2.2.2.2.1)), (AV.v (.int .i64 y.2.2.2.2.2.2.2.2.2.2.2.2.2.1)), (AV.v (.int .i64 y.2.2.2.2.2.2.2.2.2.2.2.2.2.2.1)), (AV.v (.int .i64 y.2.2.2.2.2.2.2.2.2.2.2.2.2.2.2.1)), (AV.v (.int .i64 y.2.2.2.2.2.2.2.2.2.2.2.2.2.2.2.2.1))]), (54, [(AV.list 1 y.2.2.2.2.2.2.2.2.2.2.2.2.2.2.2.2.2.1 none), (AV.v (.int .i64 y.2.2.2.2.2.2.2.2.2.2.2.2.2.2.2.2.2.2))])] (F7_an 46).2.toks 0)
  spe := fun y α k => by rcases y with _ | _ <;> rfl
  b := fun x α kn ke => (match (decide (x.2.2.2.2.2.2.2.2.2.2.2.2.1 < x.2.2.2.2.2.2.2.2.2.2.2.1)) with | true => (if 0 ≤ x.2.2.2.2.2.2.2.2.2.2.2.2.1 then (match x.2.2.2.2.1[x.2.2.2.2.2.2.2.2.2.2.2.2.1.toNat]? with | some c48 => (match c48[0]? with | some x49 => (match x49 with | .v (.string s50) => (match F24_d N (x.2.1, s50) with | some y51 => (match F31_d N (x.2.1, s50) with | some y52 => (match (y51.1 != y52.1) with | true => (ke (.inl (x.1, x.2.1, x.2.2.1, x.2.2.2.1, x.2.2.2.2.2.1, x.2.2.2.2.2.2.1, false, x.2.2.2.2.2.2.2.1, x.2.2.2.2.2.2.2.2.1, x.2.2.2.2.2.2.2.2.2.1, x.2.2.2.2.2.2.2.2.2.2.1, x.2.2.2.2.2.2.2.2.2.2.2.2.2.1, x.2.2.2.2.2.2.2.2.2.2.2.2.2.2.1, x.2.2.2.2.2.2.2.2.2.2.2.2.2.2.2.1, x.2.2.2.2.2.2.2.2.2.2.2.2.2.2.2.2.1, x.2.2.2.2.2.2.2.2.2.2.2.2.2.2.2.2.2.1, x.2.2.2.2.2.2.2.2.2.2.2.2.2.2.2.2.2.2.1, x.2.2.2.2.2.2.2.2.2.2.2.2.2.2.2.2.2.2.2.1, x.2.2.2.2.2.2.2.2.2.2.2.2.2.2.2.2.2.2.2.2.1, x.2.2.2.2.2.2.2.2.2.2.2.2.2.2.2.2.2.2.2.2.2))) | false => (match (y51.2 != y52.2) with | true => (ke (.inl (x.1, x.2.1, x.2.2.1, x.2.2.2.1, x.2.2.2.2.2.1, x.2.2.2.2.2.2.1, false, x.2.2.2.2.2.2.2.1, x.2.2.2.2.2.2.2.2.1, x.2.2.2.2.2.2.2.2.2.1, x.2.2.2.2.2.2.2.2.2.2.1, x.2.2.2.2.2.2.2.2.2.2.2.2.2.1, x.2.2.2.2.2.2.2.2.2.2.2.2.2.2.1, x.2.2.2.2.2.2.2.2.2.2.2.2.2.2.2.1, x.2.2.2.2.2.2.2.2.2.2.2.2.2.2.2.2.1, x.2.2.2.2.2.2.2.2.2.2.2.2.2.2.2.2.2.1, x.2.2.2.2.2.2.2.2.2.2.2.2.2.2.2.2.2.2.1, x.2.2.2.2.2.2.2.2.2.2.2.2.2.2.2.2.2.2.2.1, x.2.2.2.2.2.2.2.2.2.2.2.2.2.2.2.2.2.2.2.2.1, x.2.2.2.2.2.2.2.2.2.2.2.2.2.2.2.2.2.2.2.2.2))) | false => (kn (x.1, x.2.1, x.2.2.1, x.2.2.2.1, x.2.2.2.2.1, x.2.2.2.2.2.1, x.2.2.2.2.2.2.1, x.2.2.2.2.2.2.2.1, x.2.2.2.2.2.2.2.2.1, x.2.2.2.2.2.2.2.2.2.1, x.2.2.2.2.2.2.2.2.2.2.1, x.2.2.2.2.2.2.2.2.2.2.2.1, (i64 (x.2.2.2.2.2.2.2.2.2.2.2.2.1 + 1)), x.2.2.2.2.2.2.2.2.2.2.2.2.2.1, x.2.2.2.2.2.2.2.2.2.2.2.2.2.2.1, x.2.2.2.2.2.2.2.2.2.2.2.2.2.2.2.1, x.2.2.2.2.2.2.2.2.2.2.2.2.2.2.2.2.1, x.2.2.2.2.2.2.2.2.2.2.2.2.2.2.2.2.2.1, x.2.2.2.2.2.2.2.2.2.2.2.2.2.2.2.2.2.2.1, x.2.2.2.2.2.2.2.2.2.2.2.2.2.2.2.2.2.2.2.1, x.2.2.2.2.2.2.2.2.2.2.2.2.2.2.2.2.2.2.2.2.1, x.2.2.2.2.2.2.2.2.2.2.2.2.2.2.2.2.2.2.2.2.2)))) | none => none) | none => none) | _ => none) | none => none) | none => none) else none) | false => (ke (.inr (x.1, x.2.1, x.2.2.1, x.2.2.2.1, x.2.2.2.2.2.1, x.2.2.2.2.2.2.1, x.2.2.2.2.2.2.2.1, x.2.2.2.2.2.2.2.2.1, x.2.2.2.2.2.2.2.2.2.1, x.2.2.2.2.2.2.2.2.2.2.1, x.2.2.2.2.2.2.2.2.2.2.2.2.2.1, x.2.2.2.2.2.2.2.2.2.2.2.2.2.2.1, x.2.2.2.2.2.2.2.2.2.2.2.2.2.2.2.1, x.2.2.2.2.2.2.2.2.2.2.2.2.2.2.2.2.1, x.2.2.2.2.2.2.2.2.2.2.2.2.2.2.2.2.2.1, x.2.2.2.2.2.2.2.2.2.2.2.2.2.2.2.2.2.2.1, x.2.2.2.2.2.2.2.2.2.2.2.2.2.2.2.2.2.2.2.1, x.2.2.2.2.2.2.2.2.2.2.2.2.2.2.2.2.2.2.2.2.1, x.2.2.2.2.2.2.2.2.2.2.2.2.2.2.2.2.2.2.2.2.2))))
noncomputable abbrev F7_d46 (N : Nat) (x : (List (List AV)) × (List (List AV)) × (List (List AV)) × (List (List AV)) × (List (List AV)) × Int × ByteArray × Int × Int × Int × Int × Int × Int × Int × Int × Int × Int × Int × Int × Int × (List (List AV)) × Int) : Option (((List (List AV)) × (List (List AV)) × (List (List AV)) × (List (List AV)) × Int × ByteArray × Bool × Int × Int × Int × Int × Int × Int × Int × Int × Int × Int × Int × (List (List AV)) × Int) ⊕ ((List (List AV)) × (List (List AV)) × (List (List AV)) × (List (List AV)) × Int × ByteArray × Int × Int × Int × Int × Int × Int × Int × Int × Int × Int × Int × (List (List AV)) × Int)) := (F7_l46 N).L N x
noncomputable def F7_l41 (N : Nat) : LSpec where
  X := (List (List AV)) × (List (List AV)) × (List (List AV)) × (List (List AV)) × Int × ByteArray × ByteArray × Int × Int × Int × Int × Int × Int × Int × Int × Int × Int × Int × (List (List AV)) × Int
  Y := ((List (List AV)) × (List (List AV)) × (List (List AV)) × (List (List AV)) × Int × ByteArray × ByteArray × Int × Int × Int × Int × Int × Int × Int × Int × Int × Int × Int × (List (List AV)) × Int)
  p := fun s => match s.env.length, s.nin, s.at 12, s.at 15, s.at 67, s.at 81, s.at 2, s.at 4, s.at 8, s.at 11, s.at 22, s.at 68, s.at 69, s.at 82, s.at 83, s.bx 8, s.bx 54 with
    | 229, 0, (AV.list 1 a0 none), (AV.list 1 a1 none), (AV.list 1 a2 none), (AV.list 1 a3 none), (AV.v (.int .i64 a4)), (AV.v (.string a5)), (AV.ptr 8 0), (AV.ptr 54 0), (AV.v (.string a6)), (AV.v (.int .i64 a7)), (AV.v (.int .i64 a8)), (AV.v (.int .i64 a9)), (AV.v (.int .i64 a10)), some [(AV.v (.int .i64 a11)), (AV.v (.int .i64 a12)), (AV.v (.int .i64 a13)), (AV.v (.int .i64 a14)), (AV.v (.int .i64 a15)), (AV.v (.int .i64 a16)), (AV.v (.int .i64 a17))], some [(AV.list 1 a18 none), (AV.v (.int .i64 a19))] => some (a0, a1, a2, a3, a4, a5, a6, a7, a8, a9, a10, a11, a12, a13, a14, a15, a16, a17, a18, a19)
    | _, _, _, _, _, _, _, _, _, _, _, _, _, _, _, _, _ => none
  st := fun x => mkS 229 [(12, (AV.list 1 x.1 none)), (15, (AV.list 1 x.2.1 none)), (67, (AV.list 1 x.2.2.1 none)), (81, (AV.list 1 x.2.2.2.1 none)), (2, (AV.v (.int .i64 x.2.2.2.2.1))), (4, (AV.v (.string x.2.2.2.2.2.1))), (8, (AV.ptr 8 0)), (11, (AV.ptr 54 0)), (22, (AV.v (.string x.2.2.2.2.2.2.1))), (68, (AV.v (.int .i64 x.2.2.2.2.2.2.2.1))), (69, (AV.v (.int .i64 x.2.2.2.2.2.2.2.2.1))), (82, (AV.v (.int .i64 x.2.2.2.2.2.2.2.2.2.1))), (83, (AV.v (.int .i64 x.2.2.2.2.2.2.2.2.2.2.1)))] [(8, [(AV.v (.int .i64 x.2.2.2.2.2.2.2.2.2.2.2.1)), (AV.v (.int .i64 x.2.2.2.2.2.2.2.2.2.2.2.2.1)), (AV.v (.int .i64 x.2.2.2.2.2.2.2.2.2.2.2.2.2.1)), (AV.v (.int .i64 x.2.2.2.2.2.2.2.2.2.2.2.2.2.2.1)), (AV.v (.int .i64 x.2.2.2.2.2.2.2.2.2.2.2.2.2.2.2.1)), (AV.v (.int .i64 x.2.2.2.2.2.2.2.2.2.2.2.2.2.2.2.2.1)), (AV.v (.int .i64 x.2.2.2.2.2.2.2.2.2.2.2.2.2.2.2.2.2.1))]), (54, [(AV.list 1 x.2.2.2.2.2.2.2.2.2.2.2.2.2.2.2.2.2.2.1 none), (AV.v (.int .i64 x.2.2.2.2.2.2.2.2.2.2.2.2.2.2.2.2.2.2.2))])] (F7_an 41).1.toks 0
  out := fun y => (.normal, mkS 229 [(12, (AV.list 1 y.1 none)), (15, (AV.list 1 y.2.1 none)), (67, (AV.list 1 y.2.2.1 none)), (81, (AV.list 1 y.2.2.2.1 none)), (2, (AV.v (.int .i64 y.2.2.2.2.1))), (4, (AV.v (.string y.2.2.2.2.2.1))), (8, (AV.ptr 8 0)), (11, (AV.ptr 54 0)), (22, (AV.v (.string y.2.2.2.2.2.2.1))), (68, (AV.v (.int .i64 y.2.2.2.2.2.2.2.1))), (69, (AV.v (.int .i64 y.2.2.2.2.2.2.2.2.1))), (82, (AV.v (.int .i64 y.2.2.2.2.2.2.2.2.2.1))), (83, (AV.v (.int .i64 y.2.2.2.2.2.2.2.2.2.2.1)))] [(8, [(AV.v (.int .i64 y.2.2.2.2.2.2.2.2.2.2.2.1)), (AV.v (.int .i64 y.2.2.2.2.2.2.2.2.2.2.2.2.1)), (AV.v (.int .i64 y.2.2.2.2.2.2.2.2.2.2.2.2.2.1)), (AV.v (.int .i64 y.2.2.2.2.2.2.2.2.2.2.2.2.2.2.1)), (AV.v (.int .i64 y.2.2.2.2.2.2.2.2.2.2.2.2.2.2.2.1)), (AV.v (.int .i64 y.2.2.2.2.2.2.2.2.2.2.2.2.2.2.2.2.1)), (AV.v (.int .i64 y.2.2.2.2.2.2.2.2.2.2.2.2.2.2.2.2.2.1))]), (54, [(AV.list 1 y.2.2.2.2.2.2.2.2.2.2.2.2.2.2.2.2.2.2.1 none), (AV.v (.int .i64 y.2.2.2.2.2.2.2.2.2.2.2.2.2.2.2.2.2.2.2))])] (F7_an 41).2.toks 0)
  sp := fun y α k => k (.normal, mkS 229 [(12, (AV.list 1 y.1 none)), (15, (AV.list 1 y.2.1 none)), (67, (AV.list 1 y.2.2.1 none)), (81, (AV.list 1 y.2.2.2.1 none)), (2, (AV.v (.int .i64 y.2.2.2.2.1))), (4, (AV.v (.string y.2.2.2.2.2.1))), (8, (AV.ptr 8 0)), (11, (AV.ptr 54 0)), (22, (AV.v (.string y.2.2.2.2.2.2.1))), (68, (AV.v (.int .i64 y.2.2.2.2.2.2.2.1))), (69, (AV.v (.int .i64 y.2.2.2.2.2.2.2.2.1))), (82, (AV.v (.int .i64 y.2.2.2.2.2.2.2.2.2.1))), (83, (AV.v (.int .i64 y.2.2.2.2.2.2.2.2.2.2.1)))] [(8, [(AV.v (.int .i64 y.2.2.2.2.2.2.2.2.2.2.2.1)), (AV.v (.int .i64 y.2.2.2.2.2.2.2.2.2.2.2.2.1)), (AV.v (.int .i64 y.2.2.2.2.2.2.2.2.2.2.2.2.2.1)), (AV.v (.int .i64 y.2.2.2.2.2.2.2.2.2.2.2.2.2.2.1)), (AV.v (.int .i64 y.2.2.2.2.2.2.2.2.2.2.2.2.2.2.2.1)), (AV.v (.int .i64 y.2.2.2.2.2.2.2.2.2.2.2.2.2.2.2.2.1)), (AV.v (.int .i64 y.2.2.2.2.2.2.2.2.2.2.2.2.2.2.2.2.2.1))]), (54, [(AV.list 1 y.2.2.2.2.2.2.2.2.2.2.2.2.2.2.2.2.2.2.1 none), (AV.v (.int .i64 y.2.2.2.2.2.2.2.2.2.2.2.2.2.2.2.2.2.2.2))])] (F7_an 41).2.toks 0)
  spe := fun y α k => rfl
  b := fun x α kn ke => (match (!(x.2.2.2.2.2.2.1.toList == (⟨#[]⟩ : ByteArray).toList)) with | true => (match F19_d N (3, x.2.2.2.2.2.2.2.2.2.2.2.2.2.2.2.2.2.2.1, x.2.2.2.2.2.2.2.2.2.2.2.2.2.2.2.2.2.2.2) with | some y36 => (match (y36.1 == 0) with | true => (match F19_d N ((x.2.2.2.2.2.2.1.size : Int), y36.2.1, y36.2.2) with | some y37 => (if 0 ≤ y37.1 ∧ y37.1 ≤ x.2.2.2.2.2.2.1.size then (match F19_d N (4, y37.2.1, y37.2.2) with | some y38 => (if 0 ≤ y38.1 then (match [[(AV.v (.string (⟨#[48]⟩ : ByteArray)))], [(AV.v (.string (⟨#[57]⟩ : ByteArray)))], [(AV.v (.string (⟨#[90]⟩ : ByteArray)))], [(AV.v (.string (⟨#[58]⟩ : ByteArray)))]][y38.1.toNat]? with | some c39 => (match c39[0]? with | some x40 => (match x40 with | .v (.string s41) => (if (x.2.2.2.2.2.2.1.extract 0 y37.1.toNat).size + s41.size ≤ 9223372036854775807 then (if 0 ≤ (i64 (y37.1 + 1)) ∧ (i64 (y37.1 + 1)) ≤ x.2.2.2.2.2.2.1.size then (if ((x.2.2.2.2.2.2.1.extract 0 y37.1.toNat) ++ s41).size + (x.2.2.2.2.2.2.1.extract (i64 (y37.1 + 1)).toNat x.2.2.2.2.2.2.1.size).size ≤ 9223372036854775807 then (ke (x.1, x.2.1, x.2.2.1, x.2.2.2.1, x.2.2.2.2.1, x.2.2.2.2.2.1, (((x.2.2.2.2.2.2.1.extract 0 y37.1.toNat) ++ s41) ++ (x.2.2.2.2.2.2.1.extract (i64 (y37.1 + 1)).toNat x.2.2.2.2.2.2.1.size)), x.2.2.2.2.2.2.2.1, x.2.2.2.2.2.2.2.2.1, x.2.2.2.2.2.2.2.2.2.1, x.2.2.2.2.2.2.2.2.2.2.1, x.2.2.2.2.2.2.2.2.2.2.2.1, x.2.2.2.2.2.2.2.2.2.2.2.2.1, x.2.2.2.2.2.2.2.2.2.2.2.2.2.1, x.2.2.2.2.2.2.2.2.2.2.2.2.2.2.1, x.2.2.2.2.2.2.2.2.2.2.2.2.2.2.2.1, x.2.2.2.2.2.2.2.2.2.2.2.2.2.2.2.2.1, x.2.2.2.2.2.2.2.2.2.2.2.2.2.2.2.2.2.1, y38.2.1, y38.2.2)) else none) else none) else none) | _ => none) | none => none) | none => none) else none) | none => none) else none) | none => none) | false => (ke (x.1, x.2.1, x.2.2.1, x.2.2.2.1, x.2.2.2.2.1, x.2.2.2.2.2.1, x.2.2.2.2.2.2.1, x.2.2.2.2.2.2.2.1, x.2.2.2.2.2.2.2.2.1, x.2.2.2.2.2.2.2.2.2.1, x.2.2.2.2.2.2.2.2.2.2.1, x.2.2.2.2.2.2.2.2.2.2.2.1, x.2.2.2.2.2.2.2.2.2.2.2.2.1, x.2.2.2.2.2.2.2.2.2.2.2.2.2.1, x.2.2.2.2.2.2.2.2.2.2.2.2.2.2.1, x.2.2.2.2.2.2.2.2.2.2.2.2.2.2.2.1, x.2.2.2.2.2.2.2.2.2.2.2.2.2.2.2.2.1, x.2.2.2.2.2.2.2.2.2.2.2.2.2.2.2.2.2.1, y36.2.1, y36.2.2))) | none => none) | false => (ke (x.1, x.2.1, x.2.2.1, x.2.2.2.1, x.2.2.2.2.1, x.2.2.2.2.2.1, x.2.2.2.2.2.2.1, x.2.2.2.2.2.2.2.1, x.2.2.2.2.2.2.2.2.1, x.2.2.2.2.2.2.2.2.2.1, x.2.2.2.2.2.2.2.2.2.2.1, x.2.2.2.2.2.2.2.2.2.2.2.1, x.2.2.2.2.2.2.2.2.2.2.2.2.1, x.2.2.2.2.2.2.2.2.2.2.2.2.2.1, x.2.2.2.2.2.2.2.2.2.2.2.2.2.2.1, x.2.2.2.2.2.2.2.2.2.2.2.2.2.2.2.1, x.2.2.2.2.2.2.2.2.2.2.2.2.2.2.2.2.1, x.2.2.2.2.2.2.2.2.2.2.2.2.2.2.2.2.2.1, x.2.2.2.2.2.2.2.2.2.2.2.2.2.2.2.2.2.2.1, x.2.2.2.2.2.2.2.2.2.2.2.2.2.2.2.2.2.2.2)))
noncomputable abbrev F7_d41 (N : Nat) (x : (List (List AV)) × (List (List AV)) × (List (List AV)) × (List (List AV)) × Int × ByteArray × ByteArray × Int × Int × Int × Int × Int × Int × Int × Int × Int × Int × Int × (List (List AV)) × Int) : Option (((List (List AV)) × (List (List AV)) × (List (List AV)) × (List (List AV)) × Int × ByteArray × ByteArray × Int × Int × Int × Int × Int × Int × Int × Int × Int × Int × Int × (List (List AV)) × Int)) := (F7_l41 N).L N x
noncomputable def F7_l25 (N : Nat) : LSpec where
  X := (List (List AV)) × (List (List AV)) × (List (List AV)) × (List (List AV)) × Int × ByteArray × Int × Int × Int × Int × Int × Int × Int × Int × Int × Int × Int × (List (List AV)) × Int
  Y := ((List (List AV)) × (List (List AV)) × (List (List AV)) × Int × ByteArray × Bool × Int × Int × Int × Int × Int × Int × Int × Int × Int × (List (List AV)) × Int) ⊕ ((List (List AV)) × (List (List AV)) × (List (List AV)) × Int × ByteArray × Int × Int × Int × Int × Int × Int × Int × Int × Int × (List (List AV)) × Int)
  p := fun s => match s.env.length, s.nin, s.at 12, s.at 15, s.at 67, s.at 81, s.at 2, s.at 4, s.at 8, s.at 11, s.at 68, s.at 69, s.at 82, s.at 83, s.bx 8, s.bx 54 with
    | 229, 0, (AV.list 1 a0 none), (AV.list 1 a1 none), (AV.list 1 a2 none), (AV.list 1 a3 none), (AV.v (.int .i64 a4)), (AV.v (.string a5)), (AV.ptr 8 0), (AV.ptr 54 0), (AV.v (.int .i64 a6)), (AV.v (.int .i64 a7)), (AV.v (.int .i64 a8)), (AV.v (.int .i64 a9)), some [(AV.v (.int .i64 a10)), (AV.v (.int .i64 a11)), (AV.v (.int .i64 a12)), (AV.v (.int .i64 a13)), (AV.v (.int .i64 a14)), (AV.v (.int .i64 a15)), (AV.v (.int .i64 a16))], some [(AV.list 1 a17 none), (AV.v (.int .i64 a18))] => some (a0, a1, a2, a3, a4, a5, a6, a7, a8, a9, a10, a11, a12, a13, a14, a15, a16, a17, a18)
    | _, _, _, _, _, _, _, _, _, _, _, _, _, _, _, _ => none
  st := fun x => mkS 229 [(12, (AV.list 1 x.1 none)), (15, (AV.list 1 x.2.1 none)), (67, (AV.list 1 x.2.2.1 none)), (81, (AV.list 1 x.2.2.2.1 none)), (2, (AV.v (.int .i64 x.2.2.2.2.1))), (4, (AV.v (.string x.2.2.2.2.2.1))), (8, (AV.ptr 8 0)), (11, (AV.ptr 54 0)), (68, (AV.v (.int .i64 x.2.2.2.2.2.2.1))), (69, (AV.v (.int .i64 x.2.2.2.2.2.2.2.1))), (82, (AV.v (.int .i64 x.2.2.2.2.2.2.2.2.1))), (83, (AV.v (.int .i64 x.2.2.2.2.2.2.2.2.2.1)))] [(8, [(AV.v (.int .i64 x.2.2.2.2.2.2.2.2.2.2.1)), (AV.v (.int .i64 x.2.2.2.2.2.2.2.2.2.2.2.1)), (AV.v (.int .i64 x.2.2.2.2.2.2.2.2.2.2.2.2.1)), (AV.v (.int .i64 x.2.2.2.2.2.2.2.2.2.2.2.2.2.1)), (AV.v (.int .i64 x.2.2.2.2.2.2.2.2.2.2.2.2.2.2.1)), (AV.v (.int .i64 x.2.2.2.2.2.2.2.2.2.2.2.2.2.2.2.1)), (AV.v (.int .i64 x.2.2.2.2.2.2.2.2.2.2.2.2.2.2.2.2.1))]), (54, [(AV.list 1 x.2.2.2.2.2.2.2.2.2.2.2.2.2.2.2.2.2.1 none), (AV.v (.int .i64 x.2.2.2.2.2.2.2.2.2.2.2.2.2.2.2.2.2.2))])] (F7_an 25).1.toks 0
  out := fun y => match y with
    | .inl y => (.ret, mkS 229 [(12, (AV.list 1 y.1 none)), (15, (AV.list 1 y.2.1 none)), (67, (AV.list 1 y.2.2.1 none)), (2, (AV.v (.int .i64 y.2.2.2.1))), (4, (AV.v (.string y.2.2.2.2.1))), (8, (AV.ptr 8 0)), (10, (AV.v (.bool y.2.2.2.2.2.1))), (11, (AV.ptr 54 0)), (68, (AV.v (.int .i64 y.2.2.2.2.2.2.1))), (69, (AV.v (.int .i64 y.2.2.2.2.2.2.2.1)))] [(8, [(AV.v (.int .i64 y.2.2.2.2.2.2.2.2.1)), (AV.v (.int .i64 y.2.2.2.2.2.2.2.2.2.1)), (AV.v (.int .i64 y.2.2.2.2.2.2.2.2.2.2.1)), (AV.v (.int .i64 y.2.2.2.2.2.2.2.2.2.2.2.1)), (AV.v (.int .i64 y.2.2.2.2.2.2.2.2.2.2.2.2.1)), (AV.v (.int .i64 y.2.2.2.2.2.2.2.2.2.2.2.2.2.1)), (AV.v (.int .i64 y.2.2.2.2.2.2.2.2.2.2.2.2.2.2.1))]), (54, [(AV.list 1 y.2.2.2.2.2.2.2.2.2.2.2.2.2.2.2.1 none), (AV.v (.int .i64 y.2.2.2.2.2.2.2.2.2.2.2.2.2.2.2.2))])] (F7_an 25).2.toks 0)
    | .inr y => (.exit 2, mkS 229 [(12, (AV.list 1 y.1 none)), (15, (AV.list 1 y.2.1 none)), (67, (AV.list 1 y.2.2.1 none)), (2, (AV.v (.int .i64 y.2.2.2.1))), (4, (AV.v (.string y.2.2.2.2.1))), (8, (AV.ptr 8 0)), (11, (AV.ptr 54 0)), (68, (AV.v (.int .i64 y.2.2.2.2.2.1))), (69, (AV.v (.int .i64 y.2.2.2.2.2.2.1)))] [(8, [(AV.v (.int .i64 y.2.2.2.2.2.2.2.1)), (AV.v (.int .i64 y.2.2.2.2.2.2.2.2.1)), (AV.v (.int .i64 y.2.2.2.2.2.2.2.2.2.1)), (AV.v (.int .i64 y.2.2.2.2.2.2.2.2.2.2.1)), (AV.v (.int .i64 y.2.2.2.2.2.2.2.2.2.2.2.1)), (AV.v (.int .i64 y.2.2.2.2.2.2.2.2.2.2.2.2.1)), (AV.v (.int .i64 y.2.2.2.2.2.2.2.2.2.2.2.2.2.1))]), (54, [(AV.list 1 y.2.2.2.2.2.2.2.2.2.2.2.2.2.2.1 none), (AV.v (.int .i64 y.2.2.2.2.2.2.2.2.2.2.2.2.2.2.2))])] (F7_an 25).2.toks 0)
  sp := fun y α k => match y with
    | .inl y => k (.ret, mkS 229 [(12, (AV.list 1 y.1 none)), (15, (AV.list 1 y.2.1 none)), (67, (AV.list 1 y.2.2.1 none)), (2, (AV.v (.int .i64 y.2.2.2.1))), (4, (AV.v (.string y.2.2.2.2.1))), (8, (AV.ptr 8 0)), (10, (AV.v (.bool y.2.2.2.2.2.1))), (11, (AV.ptr 54 0)), (68, (AV.v (.int .i64 y.2.2.2.2.2.2.1))), (69, (AV.v (.int .i64 y.2.2.2.2.2.2.2.1)))] [(8, [(AV.v (.int .i64 y.2.2.2.2.2.2.2.2.1)), (AV.v (.int .i64 y.2.2.2.2.2.2.2.2.2.1)), (AV.v (.int .i64 y.2.2.2.2.2.2.2.2.2.2.1)), (AV.v (.int .i64 y.2.2.2.2.2.2.2.2.2.2.2.1)), (AV.v (.int .i64 y.2.2.2.2.2.2.2.2.2.2.2.2.1)), (AV.v (.int .i64 y.2.2.2.2.2.2.2.2.2.2.2.2.2.1)), (AV.v (.int .i64 y.2.2.2.2.2.2.2.2.2.2.2.2.2.2.1))]), (54, [(AV.list 1 y.2.2.2.2.2.2.2.2.2.2.2.2.2.2.2.1 none), (AV.v (.int .i64 y.2.2.2.2.2.2.2.2.2.2.2.2.2.2.2.2))])] (F7_an 25).2.toks 0)
    | .inr y => k (.exit 2, mkS 229 [(12, (AV.list 1 y.1 none)), (15, (AV.list 1 y.2.1 none)), (67, (AV.list 1 y.2.2.1 none)), (2, (AV.v (.int .i64 y.2.2.2.1))), (4, (AV.v (.string y.2.2.2.2.1))), (8, (AV.ptr 8 0)), (11, (AV.ptr 54 0)), (68, (AV.v (.int .i64 y.2.2.2.2.2.1))), (69, (AV.v (.int .i64 y.2.2.2.2.2.2.1)))] [(8, [(AV.v (.int .i64 y.2.2.2.2.2.2.2.1)), (AV.v (.int .i64 y.2.2.2.2.2.2.2.2.1)), (AV.v (.int .i64 y.2.2.2.2.2.2.2.2.2.1)), (AV.v (.int .i64 y.2.2.2.2.2.2.2.2.2.2.1)), (AV.v (.int .i64 y.2.2.2.2.2.2.2.2.2.2.2.1)), (AV.v (.int .i64 y.2.2.2.2.2.2.2.2.2.2.2.2.1)), (AV.v (.int .i64 y.2.2.2.2.2.2.2.2.2.2.2.2.2.1))]), (54, [(AV.list 1 y.2.2.2.2.2.2.2.2.2.2.2.2.2.2.1 none), (AV.v (.int .i64 y.2.2.2.2.2.2.2.2.2.2.2.2.2.2.2))])] (F7_an 25).2.toks 0)
  spe := fun y α k => by rcases y with _ | _ <;> rfl
  b := fun x α kn ke => (match (decide (x.2.2.2.2.2.2.2.2.2.1 < x.2.2.2.2.2.2.2.2.1)) with | true => (if 0 ≤ x.2.2.2.2.2.2.2.2.2.1 then (match x.2.2.2.1[x.2.2.2.2.2.2.2.2.2.1.toNat]? with | some c56 => (match c56[0]? with | some x57 => (match x57 with | .v (.int q59 n58) => (if q59 = .i64 then (match F18_d N (x.2.1, n58) with | some y60 => (match F28_d N (x.2.1, n58) with | some y61 => (match F16_d N (x.2.1, n58) with | some y62 => (match F29_d N (x.2.1, n58) with | some y63 => (match (!((y60.1 == y61.1) && ((y60.2.1 == y61.2.1) && ((y60.2.2.1 == y61.2.2.1) && ((y60.2.2.2.1 == y61.2.2.2.1) && ((y60.2.2.2.2.1 == y61.2.2.2.2.1) && ((y60.2.2.2.2.2.1 == y61.2.2.2.2.2.1) && ((y60.2.2.2.2.2.2.1 == y61.2.2.2.2.2.2.1) && true)))))))) with | true => (ke (.inl (x.1, x.2.1, x.2.2.1, x.2.2.2.2.1, x.2.2.2.2.2.1, false, x.2.2.2.2.2.2.1, x.2.2.2.2.2.2.2.1, x.2.2.2.2.2.2.2.2.2.2.1, x.2.2.2.2.2.2.2.2.2.2.2.1, x.2.2.2.2.2.2.2.2.2.2.2.2.1, x.2.2.2.2.2.2.2.2.2.2.2.2.2.1, x.2.2.2.2.2.2.2.2.2.2.2.2.2.2.1, x.2.2.2.2.2.2.2.2.2.2.2.2.2.2.2.1, x.2.2.2.2.2.2.2.2.2.2.2.2.2.2.2.2.1, x.2.2.2.2.2.2.2.2.2.2.2.2.2.2.2.2.2.1, x.2.2.2.2.2.2.2.2.2.2.2.2.2.2.2.2.2.2))) | false => (match (y60.2.2.2.2.2.2.2 != y61.2.2.2.2.2.2.2) with | true => (ke (.inl (x.1, x.2.1, x.2.2.1, x.2.2.2.2.1, x.2.2.2.2.2.1, false, x.2.2.2.2.2.2.1, x.2.2.2.2.2.2.2.1, x.2.2.2.2.2.2.2.2.2.2.1, x.2.2.2.2.2.2.2.2.2.2.2.1, x.2.2.2.2.2.2.2.2.2.2.2.2.1, x.2.2.2.2.2.2.2.2.2.2.2.2.2.1, x.2.2.2.2.2.2.2.2.2.2.2.2.2.2.1, x.2.2.2.2.2.2.2.2.2.2.2.2.2.2.2.1, x.2.2.2.2.2.2.2.2.2.2.2.2.2.2.2.2.1, x.2.2.2.2.2.2.2.2.2.2.2.2.2.2.2.2.2.1, x.2.2.2.2.2.2.2.2.2.2.2.2.2.2.2.2.2.2))) | false => (match (!(y62.1.toList == y63.1.toList)) with | true => (ke (.inl (x.1, x.2.1, x.2.2.1, x.2.2.2.2.1, x.2.2.2.2.2.1, false, x.2.2.2.2.2.2.1, x.2.2.2.2.2.2.2.1, x.2.2.2.2.2.2.2.2.2.2.1, x.2.2.2.2.2.2.2.2.2.2.2.1, x.2.2.2.2.2.2.2.2.2.2.2.2.1, x.2.2.2.2.2.2.2.2.2.2.2.2.2.1, x.2.2.2.2.2.2.2.2.2.2.2.2.2.2.1, x.2.2.2.2.2.2.2.2.2.2.2.2.2.2.2.1, x.2.2.2.2.2.2.2.2.2.2.2.2.2.2.2.2.1, x.2.2.2.2.2.2.2.2.2.2.2.2.2.2.2.2.2.1, x.2.2.2.2.2.2.2.2.2.2.2.2.2.2.2.2.2.2))) | false => (match (y62.2 != y63.2) with | true => (ke (.inl (x.1, x.2.1, x.2.2.1, x.2.2.2.2.1, x.2.2.2.2.2.1, false, x.2.2.2.2.2.2.1, x.2.2.2.2.2.2.2.1, x.2.2.2.2.2.2.2.2.2.2.1, x.2.2.2.2.2.2.2.2.2.2.2.1, x.2.2.2.2.2.2.2.2.2.2.2.2.1, x.2.2.2.2.2.2.2.2.2.2.2.2.2.1, x.2.2.2.2.2.2.2.2.2.2.2.2.2.2.1, x.2.2.2.2.2.2.2.2.2.2.2.2.2.2.2.1, x.2.2.2.2.2.2.2.2.2.2.2.2.2.2.2.2.1, x.2.2.2.2.2.2.2.2.2.2.2.2.2.2.2.2.2.1, x.2.2.2.2.2.2.2.2.2.2.2.2.2.2.2.2.2.2))) | false => (match F17_d N (x.2.1, n58) with | some y64 => (match F30_d N (x.2.1, n58) with | some y65 => (match (y64 != y65) with | true => (ke (.inl (x.1, x.2.1, x.2.2.1, x.2.2.2.2.1, x.2.2.2.2.2.1, false, x.2.2.2.2.2.2.1, x.2.2.2.2.2.2.2.1, x.2.2.2.2.2.2.2.2.2.2.1, x.2.2.2.2.2.2.2.2.2.2.2.1, x.2.2.2.2.2.2.2.2.2.2.2.2.1, x.2.2.2.2.2.2.2.2.2.2.2.2.2.1, x.2.2.2.2.2.2.2.2.2.2.2.2.2.2.1, x.2.2.2.2.2.2.2.2.2.2.2.2.2.2.2.1, x.2.2.2.2.2.2.2.2.2.2.2.2.2.2.2.2.1, x.2.2.2.2.2.2.2.2.2.2.2.2.2.2.2.2.2.1, x.2.2.2.2.2.2.2.2.2.2.2.2.2.2.2.2.2.2))) | false => (match F7_d41 N (x.1, x.2.1, x.2.2.1, x.2.2.2.1, x.2.2.2.2.1, x.2.2.2.2.2.1, y62.1, x.2.2.2.2.2.2.1, x.2.2.2.2.2.2.2.1, x.2.2.2.2.2.2.2.2.1, x.2.2.2.2.2.2.2.2.2.1, x.2.2.2.2.2.2.2.2.2.2.1, x.2.2.2.2.2.2.2.2.2.2.2.1, x.2.2.2.2.2.2.2.2.2.2.2.2.1, x.2.2.2.2.2.2.2.2.2.2.2.2.2.1, x.2.2.2.2.2.2.2.2.2.2.2.2.2.2.1, x.2.2.2.2.2.2.2.2.2.2.2.2.2.2.2.1, x.2.2.2.2.2.2.2.2.2.2.2.2.2.2.2.2.1, x.2.2.2.2.2.2.2.2.2.2.2.2.2.2.2.2.2.1, x.2.2.2.2.2.2.2.2.2.2.2.2.2.2.2.2.2.2) with | some y66 => (match F7_d46 N (y66.1, y66.2.1, y66.2.2.1, y66.2.2.2.1, [[(AV.v (.string y66.2.2.2.2.2.2.1))], [(AV.v (.string y66.2.2.2.2.2.1))]], y66.2.2.2.2.1, y66.2.2.2.2.2.1, y66.2.2.2.2.2.2.2.1, y66.2.2.2.2.2.2.2.2.1, y66.2.2.2.2.2.2.2.2.2.1, y66.2.2.2.2.2.2.2.2.2.2.1, ([[(AV.v (.string y66.2.2.2.2.2.2.1))], [(AV.v (.string y66.2.2.2.2.2.1))]].length : Int), 0, y66.2.2.2.2.2.2.2.2.2.2.2.1, y66.2.2.2.2.2.2.2.2.2.2.2.2.1, y66.2.2.2.2.2.2.2.2.2.2.2.2.2.1, y66.2.2.2.2.2.2.2.2.2.2.2.2.2.2.1, y66.2.2.2.2.2.2.2.2.2.2.2.2.2.2.2.1, y66.2.2.2.2.2.2.2.2.2.2.2.2.2.2.2.2.1, y66.2.2.2.2.2.2.2.2.2.2.2.2.2.2.2.2.2.1, y66.2.2.2.2.2.2.2.2.2.2.2.2.2.2.2.2.2.2.1, y66.2.2.2.2.2.2.2.2.2.2.2.2.2.2.2.2.2.2.2) with | some y67 => (match y67 with | .inl z68 => (ke (.inl (z68.1, z68.2.1, z68.2.2.1, z68.2.2.2.2.1, z68.2.2.2.2.2.1, z68.2.2.2.2.2.2.1, z68.2.2.2.2.2.2.2.1, z68.2.2.2.2.2.2.2.2.1, z68.2.2.2.2.2.2.2.2.2.2.2.1, z68.2.2.2.2.2.2.2.2.2.2.2.2.1, z68.2.2.2.2.2.2.2.2.2.2.2.2.2.1, z68.2.2.2.2.2.2.2.2.2.2.2.2.2.2.1, z68.2.2.2.2.2.2.2.2.2.2.2.2.2.2.2.1, z68.2.2.2.2.2.2.2.2.2.2.2.2.2.2.2.2.1, z68.2.2.2.2.2.2.2.2.2.2.2.2.2.2.2.2.2.1, z68.2.2.2.2.2.2.2.2.2.2.2.2.2.2.2.2.2.2.1, z68.2.2.2.2.2.2.2.2.2.2.2.2.2.2.2.2.2.2.2))) | .inr z69 => (kn (z69.1, z69.2.1, z69.2.2.1, z69.2.2.2.1, z69.2.2.2.2.1, z69.2.2.2.2.2.1, z69.2.2.2.2.2.2.1, z69.2.2.2.2.2.2.2.1, z69.2.2.2.2.2.2.2.2.1, (i64 (z69.2.2.2.2.2.2.2.2.2.1 + 1)), z69.2.2.2.2.2.2.2.2.2.2.1, z69.2.2.2.2.2.2.2.2.2.2.2.1, z69.2.2.2.2.2.2.2.2.2.2.2.2.1, z69.2.2.2.2.2.2.2.2.2.2.2.2.2.1, z69.2.2.2.2.2.2.2.2.2.2.2.2.2.2.1, z69.2.2.2.2.2.2.2.2.2.2.2.2.2.2.2.1, z69.2.2.2.2.2.2.2.2.2.2.2.2.2.2.2.2.1, z69.2.2.2.2.2.2.2.2.2.2.2.2.2.2.2.2.2.1, z69.2.2.2.2.2.2.2.2.2.2.2.2.2.2.2.2.2.2))) | none => none) | none => none)) | none => none) | none => none))))) | none => none) | none => none) | none => none) | none => none) else none) | _ => none) | none => none) | none => none) else none) | false => (ke (.inr (x.1, x.2.1, x.2.2.1, x.2.2.2.2.1, x.2.2.2.2.2.1, x.2.2.2.2.2.2.1, x.2.2.2.2.2.2.2.1, x.2.2.2.2.2.2.2.2.2.2.1, x.2.2.2.2.2.2.2.2.2.2.2.1, x.2.2.2.2.2.2.2.2.2.2.2.2.1, x.2.2.2.2.2.2.2.2.2.2.2.2.2.1, x.2.2.2.2.2.2.2.2.2.2.2.2.2.2.1, x.2.2.2.2.2.2.2.2.2.2.2.2.2.2.2.1, x.2.2.2.2.2.2.2.2.2.2.2.2.2.2.2.2.1, x.2.2.2.2.2.2.2.2.2.2.2.2.2.2.2.2.2.1, x.2.2.2.2.2.2.2.2.2.2.2.2.2.2.2.2.2.2))))
noncomputable abbrev F7_d25 (N : Nat) (x : (List (List AV)) × (List (List AV)) × (List (List AV)) × (List (List AV)) × Int × ByteArray × Int × Int × Int × Int × Int × Int × Int × Int × Int × Int × Int × (List (List AV)) × Int) : Option (((List (List AV)) × (List (List AV)) × (List (List AV)) × Int × ByteArray × Bool × Int × Int × Int × Int × Int × Int × Int × Int × Int × (List (List AV)) × Int) ⊕ ((List (List AV)) × (List (List AV)) × (List (List AV)) × Int × ByteArray × Int × Int × Int × Int × Int × Int × Int × Int × Int × (List (List AV)) × Int)) := (F7_l25 N).L N x
noncomputable def F7_l11 (N : Nat) : LSpec where
  X := (List (List AV)) × (List (List AV)) × Int × ByteArray × Int × Int × Int × Int × Int × Int × Int × Int × Int × (List (List AV)) × Int
  Y := (Bool) ⊕ (Unit)
  p := fun s => match s.env.length, s.nin, s.at 12, s.at 67, s.at 2, s.at 4, s.at 8, s.at 11, s.at 68, s.at 69, s.bx 8, s.bx 54 with
    | 229, 0, (AV.list 1 a0 none), (AV.list 1 a1 none), (AV.v (.int .i64 a2)), (AV.v (.string a3)), (AV.ptr 8 0), (AV.ptr 54 0), (AV.v (.int .i64 a4)), (AV.v (.int .i64 a5)), some [(AV.v (.int .i64 a6)), (AV.v (.int .i64 a7)), (AV.v (.int .i64 a8)), (AV.v (.int .i64 a9)), (AV.v (.int .i64 a10)), (AV.v (.int .i64 a11)), (AV.v (.int .i64 a12))], some [(AV.list 1 a13 none), (AV.v (.int .i64 a14))] => some (a0, a1, a2, a3, a4, a5, a6, a7, a8, a9, a10, a11, a12, a13, a14)
    | _, _, _, _, _, _, _, _, _, _, _, _ => none
  st := fun x => mkS 229 [(12, (AV.list 1 x.1 none)), (67, (AV.list 1 x.2.1 none)), (2, (AV.v (.int .i64 x.2.2.1))), (4, (AV.v (.string x.2.2.2.1))), (8, (AV.ptr 8 0)), (11, (AV.ptr 54 0)), (68, (AV.v (.int .i64 x.2.2.2.2.1))), (69, (AV.v (.int .i64 x.2.2.2.2.2.1)))] [(8, [(AV.v (.int .i64 x.2.2.2.2.2.2.1)), (AV.v (.int .i64 x.2.2.2.2.2.2.2.1)), (AV.v (.int .i64 x.2.2.2.2.2.2.2.2.1)), (AV.v (.int .i64 x.2.2.2.2.2.2.2.2.2.1)), (AV.v (.int .i64 x.2.2.2.2.2.2.2.2.2.2.1)), (AV.v (.int .i64 x.2.2.2.2.2.2.2.2.2.2.2.1)), (AV.v (.int .i64 x.2.2.2.2.2.2.2.2.2.2.2.2.1))]), (54, [(AV.list 1 x.2.2.2.2.2.2.2.2.2.2.2.2.2.1 none), (AV.v (.int .i64 x.2.2.2.2.2.2.2.2.2.2.2.2.2.2))])] (F7_an 11).1.toks 0
  out := fun y => match y with
    | .inl y => (.ret, mkS 229 [(10, (AV.v (.bool y)))] [] (F7_an 11).2.toks 0)
    | .inr y => (.exit 0, mkS 229 [] [] (F7_an 11).2.toks 0)
  sp := fun y α k => match y with
    | .inl y => k (.ret, mkS 229 [(10, (AV.v (.bool y)))] [] (F7_an 11).2.toks 0)
    | .inr y => k (.exit 0, mkS 229 [] [] (F7_an 11).2.toks 0)
  spe := fun y α k => by rcases y with _ | _ <;> rfl
  b := fun x α kn ke => (match (decide (x.2.2.2.2.2.1 < x.2.2.2.2.1)) with | true => (if 0 ≤ x.2.2.2.2.2.1 then (match x.2.1[x.2.2.2.2.2.1.toNat]? with | some c8 => (match c8[0]? with | some x9 => (match lstOf 1 x9 with | some l10 => (match F26_d N l10 with | some y11 => (match F27_d N l10 with | some y12 => (match (!(y11 == y12)) with | true => (ke (.inl false)) | false => (match F20_d N (x.1, x.2.2.1, x.2.2.2.2.2.2.2.2.2.2.2.2.2.1, x.2.2.2.2.2.2.2.2.2.2.2.2.2.2) with | some y13 => (match F7_d25 N (x.1, l10, x.2.1, y13.1, x.2.2.1, x.2.2.2.1, x.2.2.2.2.1, x.2.2.2.2.2.1, (y13.1.length : Int), 0, x.2.2.2.2.2.2.1, x.2.2.2.2.2.2.2.1, x.2.2.2.2.2.2.2.2.1, x.2.2.2.2.2.2.2.2.2.1, x.2.2.2.2.2.2.2.2.2.2.1, x.2.2.2.2.2.2.2.2.2.2.2.1, x.2.2.2.2.2.2.2.2.2.2.2.2.1, y13.2.1, y13.2.2) with | some y70 => (match y70 with | .inl z71 => (ke (.inl z71.2.2.2.2.2.1)) | .inr z72 => (match F32_d N (z72.2.2.2.2.2.2.2.2.2.2.2.2.2.2.1, z72.2.2.2.2.2.2.2.2.2.2.2.2.2.2.2) with | some y73 => (match F32_d N (y73.2.2.2.2.2.2.2.1, y73.2.2.2.2.2.2.2.2) with | some y74 => (match F32_d N (y74.2.2.2.2.2.2.2.1, y74.2.2.2.2.2.2.2.2) with | some y75 => (match F7_d60 N (z72.1, z72.2.1, z72.2.2.1, [[(AV.v (.int .i64 z72.2.2.2.2.2.2.2.1)), (AV.v (.int .i64 z72.2.2.2.2.2.2.2.2.1)), (AV.v (.int .i64 z72.2.2.2.2.2.2.2.2.2.1)), (AV.v (.int .i64 z72.2.2.2.2.2.2.2.2.2.2.1)), (AV.v (.int .i64 z72.2.2.2.2.2.2.2.2.2.2.2.1)), (AV.v (.int .i64 z72.2.2.2.2.2.2.2.2.2.2.2.2.1)), (AV.v (.int .i64 z72.2.2.2.2.2.2.2.2.2.2.2.2.2.1))], [(AV.v (.int .i64 y73.1)), (AV.v (.int .i64 y73.2.1)), (AV.v (.int .i64 y73.2.2.1)), (AV.v (.int .i64 y73.2.2.2.1)), (AV.v (.int .i64 y73.2.2.2.2.1)), (AV.v (.int .i64 y73.2.2.2.2.2.1)), (AV.v (.int .i64 y73.2.2.2.2.2.2.1))], [(AV.v (.int .i64 y74.1)), (AV.v (.int .i64 y74.2.1)), (AV.v (.int .i64 y74.2.2.1)), (AV.v (.int .i64 y74.2.2.2.1)), (AV.v (.int .i64 y74.2.2.2.2.1)), (AV.v (.int .i64 y74.2.2.2.2.2.1)), (AV.v (.int .i64 y74.2.2.2.2.2.2.1))], [(AV.v (.int .i64 y75.1)), (AV.v (.int .i64 y75.2.1)), (AV.v (.int .i64 y75.2.2.1)), (AV.v (.int .i64 y75.2.2.2.1)), (AV.v (.int .i64 y75.2.2.2.2.1)), (AV.v (.int .i64 y75.2.2.2.2.2.1)), (AV.v (.int .i64 y75.2.2.2.2.2.2.1))]], z72.2.2.2.1, z72.2.2.2.2.1, z72.2.2.2.2.2.1, z72.2.2.2.2.2.2.1, ([[(AV.v (.int .i64 z72.2.2.2.2.2.2.2.1)), (AV.v (.int .i64 z72.2.2.2.2.2.2.2.2.1)), (AV.v (.int .i64 z72.2.2.2.2.2.2.2.2.2.1)), (AV.v (.int .i64 z72.2.2.2.2.2.2.2.2.2.2.1)), (AV.v (.int .i64 z72.2.2.2.2.2.2.2.2.2.2.2.1)), (AV.v (.int .i64 z72.2.2.2.2.2.2.2.2.2.2.2.2.1)), (AV.v (.int .i64 z72.2.2.2.2.2.2.2.2.2.2.2.2.2.1))], [(AV.v (.int .i64 y73.1)), (AV.v (.int .i64 y73.2.1)), (AV.v (.int .i64 y73.2.2.1)), (AV.v (.int .i64 y73.2.2.2.1)), (AV.v (.int .i64 y73.2.2.2.2.1)), (AV.v (.int .i64 y73.2.2.2.2.2.1)), (AV.v (.int .i64 y73.2.2.2.2.2.2.1))], [(AV.v (.int .i64 y74.1)), (AV.v (.int .i64 y74.2.1)), (AV.v (.int .i64 y74.2.2.1)), (AV.v (.int .i64 y74.2.2.2.1)), (AV.v (.int .i64 y74.2.2.2.2.1)), (AV.v (.int .i64 y74.2.2.2.2.2.1)), (AV.v (.int .i64 y74.2.2.2.2.2.2.1))], [(AV.v (.int .i64 y75.1)), (AV.v (.int .i64 y75.2.1)), (AV.v (.int .i64 y75.2.2.1)), (AV.v (.int .i64 y75.2.2.2.1)), (AV.v (.int .i64 y75.2.2.2.2.1)), (AV.v (.int .i64 y75.2.2.2.2.2.1)), (AV.v (.int .i64 y75.2.2.2.2.2.2.1))]].length : Int), 0, z72.2.2.2.2.2.2.2.1, z72.2.2.2.2.2.2.2.2.1, z72.2.2.2.2.2.2.2.2.2.1, z72.2.2.2.2.2.2.2.2.2.2.1, z72.2.2.2.2.2.2.2.2.2.2.2.1, z72.2.2.2.2.2.2.2.2.2.2.2.2.1, z72.2.2.2.2.2.2.2.2.2.2.2.2.2.1, y75.2.2.2.2.2.2.2.1, y75.2.2.2.2.2.2.2.2) with | some y124 => (match y124 with | .inl z125 => (ke (.inl z125.2.2.2.2.1)) | .inr z126 => (kn (z126.1, z126.2.1, z126.2.2.1, z126.2.2.2.1, z126.2.2.2.2.1, (i64 (z126.2.2.2.2.2.1 + 1)), z126.2.2.2.2.2.2.1, z126.2.2.2.2.2.2.2.1, z126.2.2.2.2.2.2.2.2.1, z126.2.2.2.2.2.2.2.2.2.1, z126.2.2.2.2.2.2.2.2.2.2.1, z126.2.2.2.2.2.2.2.2.2.2.2.1, z126.2.2.2.2.2.2.2.2.2.2.2.2.1, z126.2.2.2.2.2.2.2.2.2.2.2.2.2.1, z126.2.2.2.2.2.2.2.2.2.2.2.2.2.2))) | none => none) | none => none) | none => none) | none => none)) | none => none) | none => none)) | none => none) | none => none) | none => none) | none => none) | none => none) else none) | false => (ke (.inr ())))
noncomputable abbrev F7_d11 (N : Nat) (x : (List (List AV)) × (List (List AV)) × Int × ByteArray × Int × Int × Int × Int × Int × Int × Int × Int × Int × (List (List AV)) × Int) : Option ((Bool) ⊕ (Unit)) := (F7_l11 N).L N x
noncomputable def F7_s (N : Nat) : FSpec where
  X := (List (List AV)) × (List (List AV)) × Int × Int × Int × Int × Int × Int × Int × Int × ByteArray
  Y := Bool
  ash := [[some 1], [some 1], [none], [none, none, none, none, none, none, none], [none]]
  bsh := []
  S := ⟨[[none]], [], [], [], []⟩
  bm := false
  pat := fun a b => match a, b with
    | [(AV.list 1 a0 none), (AV.list 1 a1 none), (AV.v (.int .i64 a2)), (AV.agg [(AV.v (.int .i64 a3)), (AV.v (.int .i64 a4)), (AV.v (.int .i64 a5)), (AV.v (.int .i64 a6)), (AV.v (.int .i64 a7)), (AV.v (.int .i64 a8)), (AV.v (.int .i64 a9))]), (AV.v (.string a10))], [] => some (a0, a1, a2, a3, a4, a5, a6, a7, a8, a9, a10)
    | _, _ => none
  args := fun x => [(AV.list 1 x.1 none), (AV.list 1 x.2.1 none), (AV.v (.int .i64 x.2.2.1)), (AV.agg [(AV.v (.int .i64 x.2.2.2.1)), (AV.v (.int .i64 x.2.2.2.2.1)), (AV.v (.int .i64 x.2.2.2.2.2.1)), (AV.v (.int .i64 x.2.2.2.2.2.2.1)), (AV.v (.int .i64 x.2.2.2.2.2.2.2.1)), (AV.v (.int .i64 x.2.2.2.2.2.2.2.2.1)), (AV.v (.int .i64 x.2.2.2.2.2.2.2.2.2.1))]), (AV.v (.string x.2.2.2.2.2.2.2.2.2.2))]
  bs := fun x => []
  ret := fun y => ⟨(AV.v (.bool y)), [], none, [], [], []⟩
  t := fun x α k => (match F13_d N x.1 with | some y1 => (match (!y1) with | true => (match F12_d N () with | some y2 => (k y2) | none => none) | false => (match (decide ((x.2.1.length : Int) > 80)) with | true => (match F12_d N () with | some y3 => (k y3) | none => none) | false => (match (decide ((x.2.2.2.2.2.2.2.2.2.2.size : Int) > 60)) with | true => (match F12_d N () with | some y4 => (k y4) | none => none) | false => (match F14_d N x.1 with | some y5 => (match F15_d N (y5.1, y5.2) with | some y6 => (if y6.1.length * 8 ≤ maxBytes then (match F25_d N ([[(AV.v (.int .i64 86400))], [(AV.v (.int .i64 0))], [(AV.v (.int .i64 86401))], [(AV.v (.int .i64 (-1)))]], y6.2.1, y6.2.2) with | some y7 => (if (y6.1.length + [[(AV.v (.int .i64 y7.1))]].length) * 8 ≤ maxBytes then (match F7_d11 N (y6.1, [[(AV.list 1 y6.1 none)], [(AV.list 1 (y6.1 ++ [[(AV.v (.int .i64 y7.1))]]) none)], [(AV.list 1 x.2.1 none)]], x.2.2.1, x.2.2.2.2.2.2.2.2.2.2, ([[(AV.list 1 y6.1 none)], [(AV.list 1 (y6.1 ++ [[(AV.v (.int .i64 y7.1))]]) none)], [(AV.list 1 x.2.1 none)]].length : Int), 0, x.2.2.2.1, x.2.2.2.2.1, x.2.2.2.2.2.1, x.2.2.2.2.2.2.1, x.2.2.2.2.2.2.2.1, x.2.2.2.2.2.2.2.2.1, x.2.2.2.2.2.2.2.2.2.1, y7.2.1, y7.2.2) with | some y127 => (match y127 with | .inl z128 => (k z128) | .inr z129 => (match F12_d N () with | some y130 => (k y130) | none => none)) | none => none) else none) | none => none) else none) | none => none) | none => none)))) | none => none)
noncomputable abbrev F7_d (N : Nat) (x : (List (List AV)) × (List (List AV)) × Int × Int × Int × Int × Int × Int × Int × Int × ByteArray) : Option (Bool) := (F7_s N).d x
theorem F7_par60 (N : Nat) : Par (F7_l60 N).b := by
  intro x α β kn ke kn' ke' r r' h h1 h2
  revert h
  dsimp only [F7_l60]
  (repeat' (first | (with_reducible refine par_ite ?_ ?_) | (with_reducible refine par_both ?_ ?_) | split)) <;> intro h <;> first | exact h1 _ h | exact h2 _ h | (cases h; done)
theorem F7_body60 (N : Nat) (x : (F7_l60 N).X) (α : Type) (kn : AS → Option α) (ke : Out → Option α) : around (tabOf Tryd.prog) (F7_g N) F7_an (lam N [(11, F7_l11 N), (25, F7_l25 N), (41, F7_l41 N), (46, F7_l46 N), (60, F7_l60 N)]) 60 (bodyOf (nthLoop 60 (Tryd.f7.body.getD .skip))) ((F7_l60 N).st x) kn ke = (F7_l60 N).b x α (fun x' => kn ((F7_l60 N).st x')) (fun y => (F7_l60 N).sp y α ke) := by kernel_rfl
theorem F7_pat60 (N : Nat) (s : AS) (x : (F7_l60 N).X) (hc : s = canon (F7_an 60).1 s) (h : (F7_l60 N).p s = some x) : s = (F7_l60 N).st x := by
  dsimp only [F7_l60] at h
  split at h
  · cases h
    exact canon_mk hc ‹_› ‹_› rfl rfl rfl ⟨‹_›, ‹_›, ‹_›, ‹_›, ‹_›, ‹_›, ‹_›, ‹_›, ‹_›, ‹_›, ‹_›, ‹_›, trivial⟩ ⟨‹_›, ‹_›, trivial⟩
  · cases h
theorem F7_loop60 (N : Nat) : ∀ s o, s = canon (F7_an 60).1 s → (lam N [(11, F7_l11 N), (25, F7_l25 N), (41, F7_l41 N), (46, F7_l46 N), (60, F7_l60 N)]).v 60 s = some o → LoopSem Tryd.prog (nthLoop 60 (Tryd.f7.body.getD .skip)) s o :=
  loop_ok (tabOf_ok Tryd.prog) (gam_ok _) mixed F7_an N [(11, F7_l11 N), (25, F7_l25 N), (41, F7_l41 N), (46, F7_l46 N), (60, F7_l60 N)] 60 (bodyOf (nthLoop 60 (Tryd.f7.body.getD .skip))) (nthLoop 60 (Tryd.f7.body.getD .skip)) (by kernel_rfl) (by
    have e : actOf F7_an (bodyOf (nthLoop 60 (Tryd.f7.body.getD .skip))) (60 + 1) = [] := by kernel_rfl
    rw [e]
    intro p hp
    cases hp) (F7_l60 N) rfl (fun s x hc h => F7_pat60 N s x hc h) (fun x => rfl) (fun x α kn ke => (F7_body60 N x α kn ke).trans (congrArg ((F7_l60 N).b x α _) (funext fun y => (F7_l60 N).spe y α ke))) (F7_par60 N)
theorem F7_par46 (N : Nat) : Par (F7_l46 N).b := by
  intro x α β kn ke kn' ke' r r' h h1 h2
  revert h
  dsimp only [F7_l46]
  (repeat' (first | (with_reducible refine par_ite ?_ ?_) | (with_reducible refine par_both ?_ ?_) | split)) <;> intro h <;> first | exact h1 _ h | exact h2 _ h | (cases h; done)
theorem F7_body46 (N : Nat) (x : (F7_l46 N).X) (α : Type) (kn : AS → Option α) (ke : Out → Option α) : around (tabOf Tryd.prog) (F7_g N) F7_an (lam N [(11, F7_l11 N), (25, F7_l25 N), (41, F7_l41 N), (46, F7_l46 N), (60, F7_l60 N)]) 46 (bodyOf (nthLoop 46 (Tryd.f7.body.getD .skip))) ((F7_l46 N).st x) kn ke = (F7_l46 N).b x α (fun x' => kn ((F7_l46 N).st x')) (fun y => (F7_l46 N).sp y α ke) := by kernel_rfl
theorem F7_pat46 (N : Nat) (s : AS) (x : (F7_l46 N).X) (hc : s = canon (F7_an 46).1 s) (h : (F7_l46 N).p s = some x) : s = (F7_l46 N).st x := by
  dsimp only [F7_l46] at h
  split at h
  · cases h
    exact canon_mk hc ‹_› ‹_› rfl rfl rfl ⟨‹_›, ‹_›, ‹_›, ‹_›, ‹_›, ‹_›, ‹_›, ‹_›, ‹_›, ‹_›, ‹_›, ‹_›, ‹_›, ‹_›, ‹_›, trivial⟩ ⟨‹_›, ‹_›, trivial⟩
  · cases h
theorem F7_loop46 (N : Nat) : ∀ s o, s = canon (F7_an 46).1 s → (lam N [(11, F7_l11 N), (25, F7_l25 N), (41, F7_l41 N), (46, F7_l46 N), (60, F7_l60 N)]).v 46 s = some o → LoopSem Tryd.prog (nthLoop 46 (Tryd.f7.body.getD .skip)) s o :=
  loop_ok (tabOf_ok Tryd.prog) (gam_ok _) mixed F7_an N [(11, F7_l11 N), (25, F7_l25 N), (41, F7_l41 N), (46, F7_l46 N), (60, F7_l60 N)] 46 (bodyOf (nthLoop 46 (Tryd.f7.body.getD .skip))) (nthLoop 46 (Tryd.f7.body.getD .skip)) (by kernel_rfl) (by
    have e : actOf F7_an (bodyOf (nthLoop 46 (Tryd.f7.body.getD .skip))) (46 + 1) = [] := by kernel_rfl
    rw [e]
    intro p hp
    cases hp) (F7_l46 N) rfl (fun s x hc h => F7_pat46 N s x hc h) (fun x => rfl) (fun x α kn ke => (F7_body46 N x α kn ke).trans (congrArg ((F7_l46 N).b x α _) (funext fun y => (F7_l46 N).spe y α ke))) (F7_par46 N)
theorem F7_par41 (N : Nat) : Par (F7_l41 N).b := by
  intro x α β kn ke kn' ke' r r' h h1 h2
  revert h
  dsimp only [F7_l41]
  (repeat' (first | (with_reducible refine par_ite ?_ ?_) | (with_reducible refine par_both ?_ ?_) | split)) <;> intro h <;> first | exact h1 _ h | exact h2 _ h | (cases h; done)
theorem F7_body41 (N : Nat) (x : (F7_l41 N).X) (α : Type) (kn : (F7_l41 N).X → Option α) (ke : Out → Option α) : pieceRun (tabOf Tryd.prog) (F7_g N) F7_an (lam N [(11, F7_l11 N), (25, F7_l25 N), (41, F7_l41 N), (46, F7_l46 N), (60, F7_l60 N)]) 41 (nthLoop 41 (Tryd.f7.body.getD .skip)) ((F7_l41 N).st x) ke = (F7_l41 N).b x α kn (fun y => (F7_l41 N).sp y α ke) := by kernel_rfl
theorem F7_pat41 (N : Nat) (s : AS) (x : (F7_l41 N).X) (hc : s = canon (F7_an 41).1 s) (h : (F7_l41 N).p s = some x) : s = (F7_l41 N).st x := by
  dsimp only [F7_l41] at h
  split at h
  · cases h
    exact canon_mk hc ‹_› ‹_› rfl rfl rfl ⟨‹_›, ‹_›, ‹_›, ‹_›, ‹_›, ‹_›, ‹_›, ‹_›, ‹_›, ‹_›, ‹_›, ‹_›, ‹_›, trivial⟩ ⟨‹_›, ‹_›, trivial⟩
  · cases h
theorem F7_loop41 (N : Nat) : ∀ s o, s = canon (F7_an 41).1 s → (lam N [(11, F7_l11 N), (25, F7_l25 N), (41, F7_l41 N), (46, F7_l46 N), (60, F7_l60 N)]).v 41 s = some o → LoopSem Tryd.prog (nthLoop 41 (Tryd.f7.body.getD .skip)) s o :=
  piece_ok (tabOf_ok Tryd.prog) (gam_ok _) mixed F7_an N [(11, F7_l11 N), (25, F7_l25 N), (41, F7_l41 N), (46, F7_l46 N), (60, F7_l60 N)] 41 _ (by
    have e : actOf (uncut F7_an 41) (nthLoop 41 (Tryd.f7.body.getD .skip)) 41 = [] := by kernel_rfl
    rw [e]
    intro p hp
    cases hp) (F7_l41 N) rfl (fun s x hc h => F7_pat41 N s x hc h) (fun x α kn ke => (F7_body41 N x α kn ke).trans (congrArg ((F7_l41 N).b x α _) (funext fun y => (F7_l41 N).spe y α ke))) (F7_par41 N)
theorem F7_par25 (N : Nat) : Par (F7_l25 N).b := by
  intro x α β kn ke kn' ke' r r' h h1 h2
  revert h
  dsimp only [F7_l25]
  (repeat' (first | (with_reducible refine par_ite ?_ ?_) | (with_reducible refine par_both ?_ ?_) | split)) <;> intro h <;> first | exact h1 _ h | exact h2 _ h | (cases h; done)
theorem F7_body25 (N : Nat) (x : (F7_l25 N).X) (α : Type) (kn : AS → Option α) (ke : Out → Option α) : around (tabOf Tryd.prog) (F7_g N) F7_an (lam N [(11, F7_l11 N), (25, F7_l25 N), (41, F7_l41 N), (46, F7_l46 N), (60, F7_l60 N)]) 25 (bodyOf (nthLoop 25 (Tryd.f7.body.getD .skip))) ((F7_l25 N).st x) kn ke = (F7_l25 N).b x α (fun x' => kn ((F7_l25 N).st x')) (fun y => (F7_l25 N).sp y α ke) := by kernel_rfl
theorem F7_pat25 (N : Nat) (s : AS) (x : (F7_l25 N).X) (hc : s = canon (F7_an 25).1 s) (h : (F7_l25 N).p s = some x) : s = (F7_l25 N).st x := by
  dsimp only [F7_l25] at h
  split at h
  · cases h
    exact canon_mk hc ‹_› ‹_› rfl rfl rfl ⟨‹_›, ‹_›, ‹_›, ‹_›, ‹_›, ‹_›, ‹_›, ‹_›, ‹_›, ‹_›, ‹_›, ‹_›, trivial⟩ ⟨‹_›, ‹_›, trivial⟩
  · cases h
theorem F7_loop25 (N : Nat) : ∀ s o, s = canon (F7_an 25).1 s → (lam N [(11, F7_l11 N), (25, F7_l25 N), (41, F7_l41 N), (46, F7_l46 N), (60, F7_l60 N)]).v 25 s = some o → LoopSem Tryd.prog (nthLoop 25 (Tryd.f7.body.getD .skip)) s o :=
  loop_ok (tabOf_ok Tryd.prog) (gam_ok _) mixed F7_an N [(11, F7_l11 N), (25, F7_l25 N), (41, F7_l41 N), (46, F7_l46 N), (60, F7_l60 N)] 25 (bodyOf (nthLoop 25 (Tryd.f7.body.getD .skip))) (nthLoop 25 (Tryd.f7.body.getD .skip)) (by kernel_rfl) (by
    have e : actOf F7_an (bodyOf (nthLoop 25 (Tryd.f7.body.getD .skip))) (25 + 1) = [(41, nthLoop 41 (Tryd.f7.body.getD .skip)), (46, nthLoop 46 (Tryd.f7.body.getD .skip))] := by kernel_rfl
    rw [e]
    intro p hp
    rcases List.mem_cons.1 hp with rfl | hp
    · exact F7_loop41 N
    rcases List.mem_cons.1 hp with rfl | hp
    · exact F7_loop46 N
    cases hp) (F7_l25 N) rfl (fun s x hc h => F7_pat25 N s x hc h) (fun x => rfl) (fun x α kn ke => (F7_body25 N x α kn ke).trans (congrArg ((F7_l25 N).b x α _) (funext fun y => (F7_l25 N).spe y α ke))) (F7_par25 N)
theorem F7_par11 (N : Nat) : Par (F7_l11 N).b := by
  intro x α β kn ke kn' ke' r r' h h1 h2
  revert h
  dsimp only [F7_l11]
  (repeat' (first | (with_reducible refine par_ite ?_ ?_) | (with_reducible refine par_both ?_ ?_) | split)) <;> intro h <;> first | exact h1 _ h | exact h2 _ h | (cases h; done)
theorem F7_body11 (N : Nat) (x : (F7_l11 N).X) (α : Type) (kn : AS → Option α) (ke : Out → Option α) : around (tabOf Tryd.prog) (F7_g N) F7_an (lam N [(11, F7_l11 N), (25, F7_l25 N), (41, F7_l41 N), (46, F7_l46 N), (60, F7_l60 N)]) 11 (bodyOf (nthLoop 11 (Tryd.f7.body.getD .skip))) ((F7_l11 N).st x) kn ke = (F7_l11 N).b x α (fun x' => kn ((F7_l11 N).st x')) (fun y => (F7_l11 N).sp y α ke) := by kernel_rfl
theorem F7_pat11 (N : Nat) (s : AS) (x : (F7_l11 N).X) (hc : s = canon (F7_an 11).1 s) (h : (F7_l11 N).p s = some x) : s = (F7_l11 N).st x := by
  dsimp only [F7_l11] at h
  split at h
  · cases h
    exact canon_mk hc ‹_› ‹_› rfl rfl rfl ⟨‹_›, ‹_›, ‹_›, ‹_›, ‹_›, ‹_›, ‹_›, ‹_›, trivial⟩ ⟨‹_›, ‹_›, trivial⟩
  · cases h
theorem F7_loop11 (N : Nat) : ∀ s o, s = canon (F7_an 11).1 s → (lam N [(11, F7_l11 N), (25, F7_l25 N), (41, F7_l41 N), (46, F7_l46 N), (60, F7_l60 N)]).v 11 s = some o → LoopSem Tryd.prog (nthLoop 11 (Tryd.f7.body.getD .skip)) s o :=
  loop_ok (tabOf_ok Tryd.prog) (gam_ok _) mixed F7_an N [(11, F7_l11 N), (25, F7_l25 N), (41, F7_l41 N), (46, F7_l46 N), (60, F7_l60 N)] 11 (bodyOf (nthLoop 11 (Tryd.f7.body.getD .skip))) (nthLoop 11 (Tryd.f7.body.getD .skip)) (by kernel_rfl) (by
    have e : actOf F7_an (bodyOf (nthLoop 11 (Tryd.f7.body.getD .skip))) (11 + 1) = [(25, nthLoop 25 (Tryd.f7.body.getD .skip)), (41, nthLoop 41 (Tryd.f7.body.getD .skip)), (46, nthLoop 46 (Tryd.f7.body.getD .skip)), (60, nthLoop 60 (Tryd.f7.body.getD .skip))] := by kernel_rfl
    rw [e]
    intro p hp
    rcases List.mem_cons.1 hp with rfl | hp
    · exact F7_loop25 N
    rcases List.mem_cons.1 hp with rfl | hp
    · exact F7_loop41 N
    rcases List.mem_cons.1 hp with rfl | hp
    · exact F7_loop46 N
    rcases List.mem_cons.1 hp with rfl | hp
    · exact F7_loop60 N
    cases hp) (F7_l11 N) rfl (fun s x hc h => F7_pat11 N s x hc h) (fun x => rfl) (fun x α kn ke => (F7_body11 N x α kn ke).trans (congrArg ((F7_l11 N).b x α _) (funext fun y => (F7_l11 N).spe y α ke))) (F7_par11 N)
theorem F7_parF (N : Nat) : ParF (F7_s N).t := by
  intro x α β k k' r r' h h1
  revert h
  dsimp only [F7_s]
  (repeat' (first | (with_reducible refine par_ite ?_ ?_) | (with_reducible refine par_both ?_ ?_) | split)) <;> intro h <;> first | exact h1 _ h | (cases h; done)
theorem F7_text (N : Nat) (x : (F7_s N).X) : acall (tabOf Tryd.prog) (F7_g N) F7_an (lam N [(11, F7_l11 N), (25, F7_l25 N), (41, F7_l41 N), (46, F7_l46 N), (60, F7_l60 N)]) Tryd.f7 (F7_s N).S ((F7_s N).args x) ((F7_s N).bs x) = (F7_s N).t x Ret (fun y => some ((F7_s N).ret y)) := by kernel_rfl
theorem F7_pat (N : Nat) (a : List AV) (b : List (List AV)) (x : (F7_s N).X) (h : (F7_s N).pat a b = some x) : a = (F7_s N).args x ∧ b = (F7_s N).bs x := by
  dsimp only [F7_s] at h
  split at h
  · cases h; exact ⟨rfl, rfl⟩
  · cases h
noncomputable def F7_e (N : Nat) : Ent Tryd.prog := entOf (tabOf_ok Tryd.prog) (gam_ok _) mixed 7 Tryd.f7 Tryd.func7 rfl F7_an (lam N [(11, F7_l11 N), (25, F7_l25 N), (41, F7_l41 N), (46, F7_l46 N), (60, F7_l60 N)]) (by
    have e : actOf F7_an (Tryd.f7.body.getD .skip) 0 = [(11, nthLoop 11 (Tryd.f7.body.getD .skip)), (25, nthLoop 25 (Tryd.f7.body.getD .skip)), (41, nthLoop 41 (Tryd.f7.body.getD .skip)), (46, nthLoop 46 (Tryd.f7.body.getD .skip)), (60, nthLoop 60 (Tryd.f7.body.getD .skip))] := by kernel_rfl
    rw [e]
    intro p hp
    rcases List.mem_cons.1 hp with rfl | hp
    · exact F7_loop11 N
    rcases List.mem_cons.1 hp with rfl | hp
    · exact F7_loop25 N
    rcases List.mem_cons.1 hp with rfl | hp
    · exact F7_loop41 N
    rcases List.mem_cons.1 hp with rfl | hp
    · exact F7_loop46 N
    rcases List.mem_cons.1 hp with rfl | hp
    · exact F7_loop60 N
    cases hp) (F7_s N) (fun _ => ⟨rfl, rfl⟩) (F7_text N) (F7_pat N) (F7_parF N)
end Go.Proofs.YtaanjciokdpkmaaDoor
