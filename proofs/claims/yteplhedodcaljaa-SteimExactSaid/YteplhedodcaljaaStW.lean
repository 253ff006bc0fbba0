/- Functions without memory. (written by sx.py) -/
import Derived.Test.YteplhedodcaljaaStV
namespace Go.Proofs.Yteplhedodcaljaa
open Go.RowKit
set_option linter.unusedVariables false
set_option linter.unusedSimpArgs false
set_option linter.unnecessarySimpa false
set_option maxRecDepth 4000
/-! ### seismonet/seismonetref05.Sample (function 50) -/
def F50_an : Nat → Keep × Keep := anL []
noncomputable def F50_g (N : Nat) : GamK := gam (P := Try.prog) [F42_e N]
noncomputable def F50_s (N : Nat) : FSpec where
  X := Int
  Y := Bool
  ash := [[none]]
  bsh := []
  S := ⟨[[none]], [], [], [], []⟩
  bm := false
  pat := fun a b => match a, b with
    | [(AV.v (.int .i64 a0))], [] => some a0
    | _, _ => none
  args := fun x => [(AV.v (.int .i64 x))]
  bs := fun x => []
  ret := fun y => ⟨(AV.v (.bool y)), [], none, [], [], []⟩
  t := fun x α k => (match F42_d N (x, (-1073741823), 1073741823) with | some y1 => (k y1) | none => none)
noncomputable abbrev F50_d (N : Nat) (x : Int) : Option (Bool) := (F50_s N).d x
theorem F50_parF (N : Nat) : ParF (F50_s N).t := by
  intro x α β k k' r r' h h1
  revert h
  dsimp only [F50_s]
  (repeat' (first | (with_reducible refine par_ite ?_ ?_) | (with_reducible refine par_both ?_ ?_) | split)) <;> intro h <;> first | exact h1 _ h | (cases h; done)
theorem F50_text (N : Nat) (x : (F50_s N).X) : acall (tabOf Try.prog) (F50_g N) F50_an (lam N []) Try.f50 (F50_s N).S ((F50_s N).args x) ((F50_s N).bs x) = (F50_s N).t x Ret (fun y => some ((F50_s N).ret y)) := by kernel_rfl
theorem F50_pat (N : Nat) (a : List AV) (b : List (List AV)) (x : (F50_s N).X) (h : (F50_s N).pat a b = some x) : a = (F50_s N).args x ∧ b = (F50_s N).bs x := by
  dsimp only [F50_s] at h
  split at h
  · cases h; exact ⟨rfl, rfl⟩
  · cases h
noncomputable def F50_e (N : Nat) : Ent Try.prog := entOf (tabOf_ok Try.prog) (gam_ok _) mixed 50 Try.f50 Try.func50 rfl F50_an (lam N []) (by
    have e : actOf F50_an (Try.f50.body.getD .skip) 0 = [] := by kernel_rfl
    rw [e]
    intro p hp
    cases hp) (F50_s N) (fun _ => ⟨rfl, rfl⟩) (F50_text N) (F50_pat N) (F50_parF N)
/-! ### seismonet/seismonetref05.InRange (function 43) -/
def F43_an : Nat → Keep × Keep := anL [(4, ⟨[3], [], [], [(0, 1)], [], [], [], [], false⟩, ⟨[2], [], [], [], [], [], [], [], false⟩)]
noncomputable def F43_g (N : Nat) : GamK := gam (P := Try.prog) [F50_e N]
noncomputable def F43_l4 (N : Nat) : LSpec where
  X := (List (List AV)) × Int
  Y := (Bool) ⊕ (Unit)
  p := fun s => match s.env.length, s.nin, s.at 0, s.at 3 with
    | 16, 0, (AV.list 1 a0 none), (AV.v (.int .i64 a1)) => some (a0, a1)
    | _, _, _, _ => none
  st := fun x => mkS 16 [(0, (AV.list 1 x.1 none)), (3, (AV.v (.int .i64 x.2)))] [] (F43_an 4).1.toks 0
  out := fun y => match y with
    | .inl y => (.ret, mkS 16 [(2, (AV.v (.bool y)))] [] (F43_an 4).2.toks 0)
    | .inr y => (.exit 0, mkS 16 [] [] (F43_an 4).2.toks 0)
  sp := fun y α k => match y with
    | .inl y => k (.ret, mkS 16 [(2, (AV.v (.bool y)))] [] (F43_an 4).2.toks 0)
    | .inr y => k (.exit 0, mkS 16 [] [] (F43_an 4).2.toks 0)
  spe := fun y α k => by rcases y with _ | _ <;> rfl
  b := fun x α kn ke => (match (decide (x.2 < (x.1.length : Int))) with | true => (if 0 ≤ x.2 then (match x.1[x.2.toNat]? with | some c1 => (match c1[0]? with | some x2 => (match x2 with | .v (.int q4 n3) => (if q4 = .i64 then (match F50_d N n3 with | some y5 => (match (!y5) with | true => (ke (.inl false)) | false => (kn (x.1, (i64 (x.2 + 1))))) | none => none) else none) | _ => none) | none => none) | none => none) else none) | false => (ke (.inr ())))
noncomputable abbrev F43_d4 (N : Nat) (x : (List (List AV)) × Int) : Option ((Bool) ⊕ (Unit)) := (F43_l4 N).L N x
noncomputable def F43_s (N : Nat) : FSpec where
  X := (List (List AV))
  Y := Bool
  ash := [[some 1]]
  bsh := []
  S := ⟨[[none]], [], [], [], []⟩
  bm := false
  pat := fun a b => match a, b with
    | [(AV.list 1 a0 none)], [] => some a0
    | _, _ => none
  args := fun x => [(AV.list 1 x none)]
  bs := fun x => []
  ret := fun y => ⟨(AV.v (.bool y)), [], none, [], [], []⟩
  t := fun x α k => (match F43_d4 N (x, 0) with | some y6 => (match y6 with | .inl z7 => (k z7) | .inr z8 => (k true)) | none => none)
noncomputable abbrev F43_d (N : Nat) (x : (List (List AV))) : Option (Bool) := (F43_s N).d x
theorem F43_par4 (N : Nat) : Par (F43_l4 N).b := by
  intro x α β kn ke kn' ke' r r' h h1 h2
  revert h
  dsimp only [F43_l4]
  (repeat' (first | (with_reducible refine par_ite ?_ ?_) | (with_reducible refine par_both ?_ ?_) | split)) <;> intro h <;> first | exact h1 _ h | exact h2 _ h | (cases h; done)
theorem F43_body4 (N : Nat) (x : (F43_l4 N).X) (α : Type) (kn : AS → Option α) (ke : Out → Option α) : around (tabOf Try.prog) (F43_g N) F43_an (lam N [(4, F43_l4 N)]) 4 (bodyOf (nthLoop 4 (Try.f43.body.getD .skip))) ((F43_l4 N).st x) kn ke = (F43_l4 N).b x α (fun x' => kn ((F43_l4 N).st x')) (fun y => (F43_l4 N).sp y α ke) := by kernel_rfl
theorem F43_pat4 (N : Nat) (s : AS) (x : (F43_l4 N).X) (hc : s = canon (F43_an 4).1 s) (h : (F43_l4 N).p s = some x) : s = (F43_l4 N).st x := by
  dsimp only [F43_l4] at h
  split at h
  · cases h
    exact canon_mk hc ‹_› ‹_› rfl rfl rfl ⟨‹_›, ‹_›, trivial⟩ trivial
  · cases h
theorem F43_loop4 (N : Nat) : ∀ s o, s = canon (F43_an 4).1 s → (lam N [(4, F43_l4 N)]).v 4 s = some o → LoopSem Try.prog (nthLoop 4 (Try.f43.body.getD .skip)) s o :=
  loop_ok (tabOf_ok Try.prog) (gam_ok _) mixed F43_an N [(4, F43_l4 N)] 4 (bodyOf (nthLoop 4 (Try.f43.body.getD .skip))) (nthLoop 4 (Try.f43.body.getD .skip)) (by kernel_rfl) (by
    have e : actOf F43_an (bodyOf (nthLoop 4 (Try.f43.body.getD .skip))) (4 + 1) = [] := by kernel_rfl
    rw [e]
    intro p hp
    cases hp) (F43_l4 N) rfl (fun s x hc h => F43_pat4 N s x hc h) (fun x => rfl) (fun x α kn ke => (F43_body4 N x α kn ke).trans (congrArg ((F43_l4 N).b x α _) (funext fun y => (F43_l4 N).spe y α ke))) (F43_par4 N)
theorem F43_parF (N : Nat) : ParF (F43_s N).t := by
  intro x α β k k' r r' h h1
  revert h
  dsimp only [F43_s]
  (repeat' (first | (with_reducible refine par_ite ?_ ?_) | (with_reducible refine par_both ?_ ?_) | split)) <;> intro h <;> first | exact h1 _ h | (cases h; done)
theorem F43_text (N : Nat) (x : (F43_s N).X) : acall (tabOf Try.prog) (F43_g N) F43_an (lam N [(4, F43_l4 N)]) Try.f43 (F43_s N).S ((F43_s N).args x) ((F43_s N).bs x) = (F43_s N).t x Ret (fun y => some ((F43_s N).ret y)) := by kernel_rfl
theorem F43_pat (N : Nat) (a : List AV) (b : List (List AV)) (x : (F43_s N).X) (h : (F43_s N).pat a b = some x) : a = (F43_s N).args x ∧ b = (F43_s N).bs x := by
  dsimp only [F43_s] at h
  split at h
  · cases h; exact ⟨rfl, rfl⟩
  · cases h
noncomputable def F43_e (N : Nat) : Ent Try.prog := entOf (tabOf_ok Try.prog) (gam_ok _) mixed 43 Try.f43 Try.func43 rfl F43_an (lam N [(4, F43_l4 N)]) (by
    have e : actOf F43_an (Try.f43.body.getD .skip) 0 = [(4, nthLoop 4 (Try.f43.body.getD .skip))] := by kernel_rfl
    rw [e]
    intro p hp
    rcases List.mem_cons.1 hp with rfl | hp
    · exact F43_loop4 N
    cases hp) (F43_s N) (fun _ => ⟨rfl, rfl⟩) (F43_text N) (F43_pat N) (F43_parF N)
/-! ### seismonet/seismonetref04.Fits (function 65) -/
def F65_an : Nat → Keep × Keep := anL []
noncomputable def F65_g (N : Nat) : GamK := gam (P := Try.prog) [F42_e N]
noncomputable def F65_s (N : Nat) : FSpec where
  X := Int × Int
  Y := Bool
  ash := [[none], [none]]
  bsh := []
  S := ⟨[[none]], [], [], [], []⟩
  bm := false
  pat := fun a b => match a, b with
    | [(AV.v (.int .i64 a0)), (AV.v (.int .i64 a1))], [] => some (a0, a1)
    | _, _ => none
  args := fun x => [(AV.v (.int .i64 x.1)), (AV.v (.int .i64 x.2))]
  bs := fun x => []
  ret := fun y => ⟨(AV.v (.bool y)), [], none, [], [], []⟩
  t := fun x α k => (match F42_d N (x.2, 1, 56) with | some y1 => (match y1 with | true => (if (IntKind.u64.wrap (i64 (x.2 - 1))) < 0 then none else (match (decide (x.1 ≥ (i64 (0 - (shL .i64 (1 : Int) (IntKind.u64.wrap (i64 (x.2 - 1)))))))) with | true => (if (IntKind.u64.wrap (i64 (x.2 - 1))) < 0 then none else (k (decide (x.1 < (shL .i64 (1 : Int) (IntKind.u64.wrap (i64 (x.2 - 1)))))))) | false => (k false))) | false => (k false)) | none => none)
noncomputable abbrev F65_d (N : Nat) (x : Int × Int) : Option (Bool) := (F65_s N).d x
theorem F65_parF (N : Nat) : ParF (F65_s N).t := by
  intro x α β k k' r r' h h1
  revert h
  dsimp only [F65_s]
  (repeat' (first | (with_reducible refine par_ite ?_ ?_) | (with_reducible refine par_both ?_ ?_) | split)) <;> intro h <;> first | exact h1 _ h | (cases h; done)
theorem F65_text (N : Nat) (x : (F65_s N).X) : acall (tabOf Try.prog) (F65_g N) F65_an (lam N []) Try.f65 (F65_s N).S ((F65_s N).args x) ((F65_s N).bs x) = (F65_s N).t x Ret (fun y => some ((F65_s N).ret y)) := by kernel_rfl
theorem F65_pat (N : Nat) (a : List AV) (b : List (List AV)) (x : (F65_s N).X) (h : (F65_s N).pat a b = some x) : a = (F65_s N).args x ∧ b = (F65_s N).bs x := by
  dsimp only [F65_s] at h
  split at h
  · cases h; exact ⟨rfl, rfl⟩
  · cases h
noncomputable def F65_e (N : Nat) : Ent Try.prog := entOf (tabOf_ok Try.prog) (gam_ok _) mixed 65 Try.f65 Try.func65 rfl F65_an (lam N []) (by
    have e : actOf F65_an (Try.f65.body.getD .skip) 0 = [] := by kernel_rfl
    rw [e]
    intro p hp
    cases hp) (F65_s N) (fun _ => ⟨rfl, rfl⟩) (F65_text N) (F65_pat N) (F65_parF N)
/-! ### seismonet/seismonetref05.fit (function 63) -/
def F63_an : Nat → Keep × Keep := anL [(8, ⟨[1, 2, 7], [], [], [(0, 1)], [], [], [], [], false⟩, ⟨[6], [], [], [], [], [], [], [], false⟩)]
noncomputable def F63_g (N : Nat) : GamK := gam (P := Try.prog) [F65_e N]
noncomputable def F63_l8 (N : Nat) : LSpec where
  X := (List (List AV)) × Int × Int × Int
  Y := (Bool) ⊕ (Unit)
  p := fun s => match s.env.length, s.nin, s.at 0, s.at 1, s.at 2, s.at 7 with
    | 24, 0, (AV.list 1 a0 none), (AV.v (.int .i64 a1)), (AV.v (.int .i64 a2)), (AV.v (.int .i64 a3)) => some (a0, a1, a2, a3)
    | _, _, _, _, _, _ => none
  st := fun x => mkS 24 [(0, (AV.list 1 x.1 none)), (1, (AV.v (.int .i64 x.2.1))), (2, (AV.v (.int .i64 x.2.2.1))), (7, (AV.v (.int .i64 x.2.2.2)))] [] (F63_an 8).1.toks 0
  out := fun y => match y with
    | .inl y => (.ret, mkS 24 [(6, (AV.v (.bool y)))] [] (F63_an 8).2.toks 0)
    | .inr y => (.exit 0, mkS 24 [] [] (F63_an 8).2.toks 0)
  sp := fun y α k => match y with
    | .inl y => k (.ret, mkS 24 [(6, (AV.v (.bool y)))] [] (F63_an 8).2.toks 0)
    | .inr y => k (.exit 0, mkS 24 [] [] (F63_an 8).2.toks 0)
  spe := fun y α k => by rcases y with _ | _ <;> rfl
  b := fun x α kn ke => (match (decide (x.2.2.2 < x.2.1)) with | true => (if 0 ≤ x.2.2.2 then (match x.1[x.2.2.2.toNat]? with | some c1 => (match c1[0]? with | some x2 => (match x2 with | .v (.int q4 n3) => (if q4 = .i64 then (match F65_d N (n3, x.2.2.1) with | some y5 => (match (!y5) with | true => (ke (.inl false)) | false => (kn (x.1, x.2.1, x.2.2.1, (i64 (x.2.2.2 + 1))))) | none => none) else none) | _ => none) | none => none) | none => none) else none) | false => (ke (.inr ())))
noncomputable abbrev F63_d8 (N : Nat) (x : (List (List AV)) × Int × Int × Int) : Option ((Bool) ⊕ (Unit)) := (F63_l8 N).L N x
noncomputable def F63_s (N : Nat) : FSpec where
  X := (List (List AV)) × Int × Int
  Y := Bool
  ash := [[some 1], [none], [none]]
  bsh := []
  S := ⟨[[none]], [], [], [], []⟩
  bm := false
  pat := fun a b => match a, b with
    | [(AV.list 1 a0 none), (AV.v (.int .i64 a1)), (AV.v (.int .i64 a2))], [] => some (a0, a1, a2)
    | _, _ => none
  args := fun x => [(AV.list 1 x.1 none), (AV.v (.int .i64 x.2.1)), (AV.v (.int .i64 x.2.2))]
  bs := fun x => []
  ret := fun y => ⟨(AV.v (.bool y)), [], none, [], [], []⟩
  t := fun x α k => (match (decide ((x.1.length : Int) < x.2.1)) with | true => (k false) | false => (match F63_d8 N (x.1, x.2.1, x.2.2, 0) with | some y6 => (match y6 with | .inl z7 => (k z7) | .inr z8 => (k true)) | none => none))
noncomputable abbrev F63_d (N : Nat) (x : (List (List AV)) × Int × Int) : Option (Bool) := (F63_s N).d x
theorem F63_par8 (N : Nat) : Par (F63_l8 N).b := by
  intro x α β kn ke kn' ke' r r' h h1 h2
  revert h
  dsimp only [F63_l8]
  (repeat' (first | (with_reducible refine par_ite ?_ ?_) | (with_reducible refine par_both ?_ ?_) | split)) <;> intro h <;> first | exact h1 _ h | exact h2 _ h | (cases h; done)
theorem F63_body8 (N : Nat) (x : (F63_l8 N).X) (α : Type) (kn : AS → Option α) (ke : Out → Option α) : around (tabOf Try.prog) (F63_g N) F63_an (lam N [(8, F63_l8 N)]) 8 (bodyOf (nthLoop 8 (Try.f63.body.getD .skip))) ((F63_l8 N).st x) kn ke = (F63_l8 N).b x α (fun x' => kn ((F63_l8 N).st x')) (fun y => (F63_l8 N).sp y α ke) := by kernel_rfl
theorem F63_pat8 (N : Nat) (s : AS) (x : (F63_l8 N).X) (hc : s = canon (F63_an 8).1 s) (h : (F63_l8 N).p s = some x) : s = (F63_l8 N).st x := by
  dsimp only [F63_l8] at h
  split at h
  · cases h
    exact canon_mk hc ‹_› ‹_› rfl rfl rfl ⟨‹_›, ‹_›, ‹_›, ‹_›, trivial⟩ trivial
  · cases h
theorem F63_loop8 (N : Nat) : ∀ s o, s = canon (F63_an 8).1 s → (lam N [(8, F63_l8 N)]).v 8 s = some o → LoopSem Try.prog (nthLoop 8 (Try.f63.body.getD .skip)) s o :=
  loop_ok (tabOf_ok Try.prog) (gam_ok _) mixed F63_an N [(8, F63_l8 N)] 8 (bodyOf (nthLoop 8 (Try.f63.body.getD .skip))) (nthLoop 8 (Try.f63.body.getD .skip)) (by kernel_rfl) (by
    have e : actOf F63_an (bodyOf (nthLoop 8 (Try.f63.body.getD .skip))) (8 + 1) = [] := by kernel_rfl
    rw [e]
    intro p hp
    cases hp) (F63_l8 N) rfl (fun s x hc h => F63_pat8 N s x hc h) (fun x => rfl) (fun x α kn ke => (F63_body8 N x α kn ke).trans (congrArg ((F63_l8 N).b x α _) (funext fun y => (F63_l8 N).spe y α ke))) (F63_par8 N)
theorem F63_parF (N : Nat) : ParF (F63_s N).t := by
  intro x α β k k' r r' h h1
  revert h
  dsimp only [F63_s]
  (repeat' (first | (with_reducible refine par_ite ?_ ?_) | (with_reducible refine par_both ?_ ?_) | split)) <;> intro h <;> first | exact h1 _ h | (cases h; done)
theorem F63_text (N : Nat) (x : (F63_s N).X) : acall (tabOf Try.prog) (F63_g N) F63_an (lam N [(8, F63_l8 N)]) Try.f63 (F63_s N).S ((F63_s N).args x) ((F63_s N).bs x) = (F63_s N).t x Ret (fun y => some ((F63_s N).ret y)) := by kernel_rfl
theorem F63_pat (N : Nat) (a : List AV) (b : List (List AV)) (x : (F63_s N).X) (h : (F63_s N).pat a b = some x) : a = (F63_s N).args x ∧ b = (F63_s N).bs x := by
  dsimp only [F63_s] at h
  split at h
  · cases h; exact ⟨rfl, rfl⟩
  · cases h
noncomputable def F63_e (N : Nat) : Ent Try.prog := entOf (tabOf_ok Try.prog) (gam_ok _) mixed 63 Try.f63 Try.func63 rfl F63_an (lam N [(8, F63_l8 N)]) (by
    have e : actOf F63_an (Try.f63.body.getD .skip) 0 = [(8, nthLoop 8 (Try.f63.body.getD .skip))] := by kernel_rfl
    rw [e]
    intro p hp
    rcases List.mem_cons.1 hp with rfl | hp
    · exact F63_loop8 N
    cases hp) (F63_s N) (fun _ => ⟨rfl, rfl⟩) (F63_text N) (F63_pat N) (F63_parF N)
/-! ### seismonet/seismonetref04.Wrap (function 45) -/
def F45_an : Nat → Keep × Keep := anL []
noncomputable def F45_g (N : Nat) : GamK := gam (P := Try.prog) [F65_e N]
noncomputable def F45_s (N : Nat) : FSpec where
  X := Int × Int
  Y := Int × Int
  ash := [[none], [none]]
  bsh := []
  S := ⟨[[none], [none]], [], [], [], []⟩
  bm := false
  pat := fun a b => match a, b with
    | [(AV.v (.int .i64 a0)), (AV.v (.int .i64 a1))], [] => some (a0, a1)
    | _, _ => none
  args := fun x => [(AV.v (.int .i64 x.1)), (AV.v (.int .i64 x.2))]
  bs := fun x => []
  ret := fun y => ⟨(AV.tup [(AV.v (.int .i64 y.1)), (AV.v (.int .i64 y.2))]), [], none, [], [], []⟩
  t := fun x α k => (match F65_d N (x.1, x.2) with | some y1 => (match (!y1) with | true => (k (0, 2)) | false => (match (decide (x.1 < 0)) with | true => (if (IntKind.u64.wrap x.2) < 0 then none else (k ((i64 (x.1 + (shL .i64 (1 : Int) (IntKind.u64.wrap x.2)))), 0))) | false => (k (x.1, 0)))) | none => none)
noncomputable abbrev F45_d (N : Nat) (x : Int × Int) : Option (Int × Int) := (F45_s N).d x
theorem F45_parF (N : Nat) : ParF (F45_s N).t := by
  intro x α β k k' r r' h h1
  revert h
  dsimp only [F45_s]
  (repeat' (first | (with_reducible refine par_ite ?_ ?_) | (with_reducible refine par_both ?_ ?_) | split)) <;> intro h <;> first | exact h1 _ h | (cases h; done)
theorem F45_text (N : Nat) (x : (F45_s N).X) : acall (tabOf Try.prog) (F45_g N) F45_an (lam N []) Try.f45 (F45_s N).S ((F45_s N).args x) ((F45_s N).bs x) = (F45_s N).t x Ret (fun y => some ((F45_s N).ret y)) := by kernel_rfl
theorem F45_pat (N : Nat) (a : List AV) (b : List (List AV)) (x : (F45_s N).X) (h : (F45_s N).pat a b = some x) : a = (F45_s N).args x ∧ b = (F45_s N).bs x := by
  dsimp only [F45_s] at h
  split at h
  · cases h; exact ⟨rfl, rfl⟩
  · cases h
noncomputable def F45_e (N : Nat) : Ent Try.prog := entOf (tabOf_ok Try.prog) (gam_ok _) mixed 45 Try.f45 Try.func45 rfl F45_an (lam N []) (by
    have e : actOf F45_an (Try.f45.body.getD .skip) 0 = [] := by kernel_rfl
    rw [e]
    intro p hp
    cases hp) (F45_s N) (fun _ => ⟨rfl, rfl⟩) (F45_text N) (F45_pat N) (F45_parF N)
/-! ### seismonet/seismonetref05.pack (function 64) -/
def F64_an : Nat → Keep × Keep := anL [(5, ⟨[1, 5, 6], [], [], [(0, 1)], [], [], [], [], false⟩, ⟨[5], [], [], [], [], [], [], [], false⟩)]
noncomputable def F64_g (N : Nat) : GamK := gam (P := Try.prog) [F45_e N]
noncomputable def F64_l5 (N : Nat) : LSpec where
  X := (List (List AV)) × Int × Int × Int
  Y := (Int)
  p := fun s => match s.env.length, s.nin, s.at 0, s.at 1, s.at 5, s.at 6 with
    | 31, 0, (AV.list 1 a0 none), (AV.v (.int .i64 a1)), (AV.v (.int .i64 a2)), (AV.v (.int .i64 a3)) => some (a0, a1, a2, a3)
    | _, _, _, _, _, _ => none
  st := fun x => mkS 31 [(0, (AV.list 1 x.1 none)), (1, (AV.v (.int .i64 x.2.1))), (5, (AV.v (.int .i64 x.2.2.1))), (6, (AV.v (.int .i64 x.2.2.2)))] [] (F64_an 5).1.toks 0
  out := fun y => (.exit 0, mkS 31 [(5, (AV.v (.int .i64 y)))] [] (F64_an 5).2.toks 0)
  sp := fun y α k => k (.exit 0, mkS 31 [(5, (AV.v (.int .i64 y)))] [] (F64_an 5).2.toks 0)
  spe := fun y α k => rfl
  b := fun x α kn ke => (match (decide (x.2.2.2 < (x.1.length : Int))) with | true => (if 0 ≤ x.2.2.2 then (match x.1[x.2.2.2.toNat]? with | some c1 => (match c1[0]? with | some x2 => (match x2 with | .v (.int q4 n3) => (if q4 = .i64 then (match F45_d N (n3, x.2.1) with | some y5 => (if (IntKind.u64.wrap x.2.1) < 0 then none else (kn (x.1, x.2.1, (bOr .i64 (shL .i64 x.2.2.1 (IntKind.u64.wrap x.2.1)) y5.1), (i64 (x.2.2.2 + 1))))) | none => none) else none) | _ => none) | none => none) | none => none) else none) | false => (ke x.2.2.1))
noncomputable abbrev F64_d5 (N : Nat) (x : (List (List AV)) × Int × Int × Int) : Option ((Int)) := (F64_l5 N).L N x
noncomputable def F64_s (N : Nat) : FSpec where
  X := (List (List AV)) × Int
  Y := Int
  ash := [[some 1], [none]]
  bsh := []
  S := ⟨[[none]], [], [], [], []⟩
  bm := false
  pat := fun a b => match a, b with
    | [(AV.list 1 a0 none), (AV.v (.int .i64 a1))], [] => some (a0, a1)
    | _, _ => none
  args := fun x => [(AV.list 1 x.1 none), (AV.v (.int .i64 x.2))]
  bs := fun x => []
  ret := fun y => ⟨(AV.v (.int .i64 y)), [], none, [], [], []⟩
  t := fun x α k => (match F64_d5 N (x.1, x.2, 0, 0) with | some y6 => (k y6) | none => none)
noncomputable abbrev F64_d (N : Nat) (x : (List (List AV)) × Int) : Option (Int) := (F64_s N).d x
theorem F64_par5 (N : Nat) : Par (F64_l5 N).b := by
  intro x α β kn ke kn' ke' r r' h h1 h2
  revert h
  dsimp only [F64_l5]
  (repeat' (first | (with_reducible refine par_ite ?_ ?_) | (with_reducible refine par_both ?_ ?_) | split)) <;> intro h <;> first | exact h1 _ h | exact h2 _ h | (cases h; done)
theorem F64_body5 (N : Nat) (x : (F64_l5 N).X) (α : Type) (kn : AS → Option α) (ke : Out → Option α) : around (tabOf Try.prog) (F64_g N) F64_an (lam N [(5, F64_l5 N)]) 5 (bodyOf (nthLoop 5 (Try.f64.body.getD .skip))) ((F64_l5 N).st x) kn ke = (F64_l5 N).b x α (fun x' => kn ((F64_l5 N).st x')) (fun y => (F64_l5 N).sp y α ke) := by kernel_rfl
theorem F64_pat5 (N : Nat) (s : AS) (x : (F64_l5 N).X) (hc : s = canon (F64_an 5).1 s) (h : (F64_l5 N).p s = some x) : s = (F64_l5 N).st x := by
  dsimp only [F64_l5] at h
  split at h
  · cases h
    exact canon_mk hc ‹_› ‹_› rfl rfl rfl ⟨‹_›, ‹_›, ‹_›, ‹_›, trivial⟩ trivial
  · cases h
theorem F64_loop5 (N : Nat) : ∀ s o, s = canon (F64_an 5).1 s → (lam N [(5, F64_l5 N)]).v 5 s = some o → LoopSem Try.prog (nthLoop 5 (Try.f64.body.getD .skip)) s o :=
  loop_ok (tabOf_ok Try.prog) (gam_ok _) mixed F64_an N [(5, F64_l5 N)] 5 (bodyOf (nthLoop 5 (Try.f64.body.getD .skip))) (nthLoop 5 (Try.f64.body.getD .skip)) (by kernel_rfl) (by
    have e : actOf F64_an (bodyOf (nthLoop 5 (Try.f64.body.getD .skip))) (5 + 1) = [] := by kernel_rfl
    rw [e]
    intro p hp
    cases hp) (F64_l5 N) rfl (fun s x hc h => F64_pat5 N s x hc h) (fun x => rfl) (fun x α kn ke => (F64_body5 N x α kn ke).trans (congrArg ((F64_l5 N).b x α _) (funext fun y => (F64_l5 N).spe y α ke))) (F64_par5 N)
theorem F64_parF (N : Nat) : ParF (F64_s N).t := by
  intro x α β k k' r r' h h1
  revert h
  dsimp only [F64_s]
  (repeat' (first | (with_reducible refine par_ite ?_ ?_) | (with_reducible refine par_both ?_ ?_) | split)) <;> intro h <;> first | exact h1 _ h | (cases h; done)
theorem F64_text (N : Nat) (x : (F64_s N).X) : acall (tabOf Try.prog) (F64_g N) F64_an (lam N [(5, F64_l5 N)]) Try.f64 (F64_s N).S ((F64_s N).args x) ((F64_s N).bs x) = (F64_s N).t x Ret (fun y => some ((F64_s N).ret y)) := by kernel_rfl
theorem F64_pat (N : Nat) (a : List AV) (b : List (List AV)) (x : (F64_s N).X) (h : (F64_s N).pat a b = some x) : a = (F64_s N).args x ∧ b = (F64_s N).bs x := by
  dsimp only [F64_s] at h
  split at h
  · cases h; exact ⟨rfl, rfl⟩
  · cases h
noncomputable def F64_e (N : Nat) : Ent Try.prog := entOf (tabOf_ok Try.prog) (gam_ok _) mixed 64 Try.f64 Try.func64 rfl F64_an (lam N [(5, F64_l5 N)]) (by
    have e : actOf F64_an (Try.f64.body.getD .skip) 0 = [(5, nthLoop 5 (Try.f64.body.getD .skip))] := by kernel_rfl
    rw [e]
    intro p hp
    rcases List.mem_cons.1 hp with rfl | hp
    · exact F64_loop5 N
    cases hp) (F64_s N) (fun _ => ⟨rfl, rfl⟩) (F64_text N) (F64_pat N) (F64_parF N)
/-! ### seismonet/seismonetref05.words (function 44) -/
def F44_an : Nat → Keep × Keep := anL [(5, ⟨[4], [(3, 1)], [], [(0, 1)], [], [], [], [], false⟩, ⟨[], [(3, 1)], [], [], [], [], [], [], false⟩), (16, ⟨[], [(5, 2)], [], [(3, 1)], [], [], [], [], false⟩, ⟨[], [(5, 2)], [], [], [], [], [], [], false⟩)]
noncomputable def F44_g (N : Nat) : GamK := gam (P := Try.prog) [F63_e N, F64_e N]
noncomputable def F44_l16 (N : Nat) : LSpec where
  X := (List (List AV)) × (List (List AV))
  Y := ((List (List AV)))
  p := fun s => match s.env.length, s.nin, s.at 5, s.at 3 with
    | 67, 0, (AV.list 2 a0 (some 1280000320)), (AV.list 1 a1 none) => some (a0, a1)
    | _, _, _, _ => none
  st := fun x => mkS 67 [(5, (AV.list 2 x.1 (some 1280000320))), (3, (AV.list 1 x.2 none))] [] (F44_an 16).1.toks 0
  out := fun y => (.exit 2, mkS 67 [(5, (AV.list 2 y (some 1280000320)))] [] (F44_an 16).2.toks 0)
  sp := fun y α k => k (.exit 2, mkS 67 [(5, (AV.list 2 y (some 1280000320)))] [] (F44_an 16).2.toks 0)
  spe := fun y α k => rfl
  b := fun x α kn ke => (match (decide ((x.2.length : Int) > 0)) with | true => (match F63_d N (x.2, 4, 8) with | some y10 => (match y10 with | true => (if 0 ≤ (4 : Int) ∧ (4 : Int) ≤ x.2.length then (match F64_d N ((x.2.take (4 : Int).toNat), 8) with | some y11 => (if (x.1.length + [[(AV.v (.int .i64 1)), (AV.v (.int .i64 y11))]].length) * 16 ≤ maxBytes then (if 0 ≤ (4 : Int) ∧ (4 : Int) ≤ x.2.length then (kn ((x.1 ++ [[(AV.v (.int .i64 1)), (AV.v (.int .i64 y11))]]), (x.2.drop (4 : Int).toNat))) else none) else none) | none => none) else none) | false => (match F63_d N (x.2, 2, 16) with | some y12 => (match y12 with | true => (if 0 ≤ (2 : Int) ∧ (2 : Int) ≤ x.2.length then (match F64_d N ((x.2.take (2 : Int).toNat), 16) with | some y13 => (if (x.1.length + [[(AV.v (.int .i64 2)), (AV.v (.int .i64 y13))]].length) * 16 ≤ maxBytes then (if 0 ≤ (2 : Int) ∧ (2 : Int) ≤ x.2.length then (kn ((x.1 ++ [[(AV.v (.int .i64 2)), (AV.v (.int .i64 y13))]]), (x.2.drop (2 : Int).toNat))) else none) else none) | none => none) else none) | false => (if 0 ≤ (1 : Int) ∧ (1 : Int) ≤ x.2.length then (match F64_d N ((x.2.take (1 : Int).toNat), 32) with | some y14 => (if (x.1.length + [[(AV.v (.int .i64 3)), (AV.v (.int .i64 y14))]].length) * 16 ≤ maxBytes then (if 0 ≤ (1 : Int) ∧ (1 : Int) ≤ x.2.length then (kn ((x.1 ++ [[(AV.v (.int .i64 3)), (AV.v (.int .i64 y14))]]), (x.2.drop (1 : Int).toNat))) else none) else none) | none => none) else none)) | none => none)) | none => none) | false => (ke x.1))
noncomputable abbrev F44_d16 (N : Nat) (x : (List (List AV)) × (List (List AV))) : Option (((List (List AV)))) := (F44_l16 N).L N x
noncomputable def F44_l5 (N : Nat) : LSpec where
  X := (List (List AV)) × (List (List AV)) × Int
  Y := ((List (List AV)))
  p := fun s => match s.env.length, s.nin, s.at 3, s.at 0, s.at 4 with
    | 67, 0, (AV.list 1 a0 (some 1280000192)), (AV.list 1 a1 none), (AV.v (.int .i64 a2)) => some (a0, a1, a2)
    | _, _, _, _, _ => none
  st := fun x => mkS 67 [(3, (AV.list 1 x.1 (some 1280000192))), (0, (AV.list 1 x.2.1 none)), (4, (AV.v (.int .i64 x.2.2)))] [] (F44_an 5).1.toks 0
  out := fun y => (.exit 0, mkS 67 [(3, (AV.list 1 y (some 1280000192)))] [] (F44_an 5).2.toks 0)
  sp := fun y α k => k (.exit 0, mkS 67 [(3, (AV.list 1 y (some 1280000192)))] [] (F44_an 5).2.toks 0)
  spe := fun y α k => rfl
  b := fun x α kn ke => (match (decide (x.2.2 < (x.2.1.length : Int))) with | true => (match (x.2.2 == 0) with | true => (if (x.1.length + [[(AV.v (.int .i64 0))]].length) * 8 ≤ maxBytes then (kn ((x.1 ++ [[(AV.v (.int .i64 0))]]), x.2.1, (i64 (x.2.2 + 1)))) else none) | false => (if 0 ≤ x.2.2 then (match x.2.1[x.2.2.toNat]? with | some c1 => (match c1[0]? with | some x2 => (match x2 with | .v (.int q4 n3) => (if q4 = .i64 then (if 0 ≤ (i64 (x.2.2 - 1)) then (match x.2.1[(i64 (x.2.2 - 1)).toNat]? with | some c5 => (match c5[0]? with | some x6 => (match x6 with | .v (.int q8 n7) => (if q8 = .i64 then (if (x.1.length + [[(AV.v (.int .i64 (i64 (n3 - n7))))]].length) * 8 ≤ maxBytes then (kn ((x.1 ++ [[(AV.v (.int .i64 (i64 (n3 - n7))))]]), x.2.1, (i64 (x.2.2 + 1)))) else none) else none) | _ => none) | none => none) | none => none) else none) else none) | _ => none) | none => none) | none => none) else none)) | false => (ke x.1))
noncomputable abbrev F44_d5 (N : Nat) (x : (List (List AV)) × (List (List AV)) × Int) : Option (((List (List AV)))) := (F44_l5 N).L N x
noncomputable def F44_s (N : Nat) : FSpec where
  X := (List (List AV))
  Y := (List (List AV))
  ash := [[some 1]]
  bsh := []
  S := ⟨[[some 2000002]], [], [], [], []⟩
  bm := false
  pat := fun a b => match a, b with
    | [(AV.list 1 a0 none)], [] => some a0
    | _, _ => none
  args := fun x => [(AV.list 1 x none)]
  bs := fun x => []
  ret := fun y => ⟨(AV.list 2 y (some 2560000000)), [], none, [], [2560000000], []⟩
  t := fun x α k => (match F44_d5 N (([] : List (List AV)), x, 0) with | some y9 => (match F44_d16 N (([] : List (List AV)), y9) with | some y15 => (k y15) | none => none) | none => none)
noncomputable abbrev F44_d (N : Nat) (x : (List (List AV))) : Option ((List (List AV))) := (F44_s N).d x
theorem F44_par16 (N : Nat) : Par (F44_l16 N).b := by
  intro x α β kn ke kn' ke' r r' h h1 h2
  revert h
  dsimp only [F44_l16]
  (repeat' (first | (with_reducible refine par_ite ?_ ?_) | (with_reducible refine par_both ?_ ?_) | split)) <;> intro h <;> first | exact h1 _ h | exact h2 _ h | (cases h; done)
theorem F44_body16 (N : Nat) (x : (F44_l16 N).X) (α : Type) (kn : AS → Option α) (ke : Out → Option α) : around (tabOf Try.prog) (F44_g N) F44_an (lam N [(5, F44_l5 N), (16, F44_l16 N)]) 16 (bodyOf (nthLoop 16 (Try.f44.body.getD .skip))) ((F44_l16 N).st x) kn ke = (F44_l16 N).b x α (fun x' => kn ((F44_l16 N).st x')) (fun y => (F44_l16 N).sp y α ke) := by kernel_rfl
theorem F44_pat16 (N : Nat) (s : AS) (x : (F44_l16 N).X) (hc : s = canon (F44_an 16).1 s) (h : (F44_l16 N).p s = some x) : s = (F44_l16 N).st x := by
  dsimp only [F44_l16] at h
  split at h
  · cases h
    exact canon_mk hc ‹_› ‹_› rfl rfl rfl ⟨‹_›, ‹_›, trivial⟩ trivial
  · cases h
theorem F44_loop16 (N : Nat) : ∀ s o, s = canon (F44_an 16).1 s → (lam N [(5, F44_l5 N), (16, F44_l16 N)]).v 16 s = some o → LoopSem Try.prog (nthLoop 16 (Try.f44.body.getD .skip)) s o :=
  loop_ok (tabOf_ok Try.prog) (gam_ok _) mixed F44_an N [(5, F44_l5 N), (16, F44_l16 N)] 16 (bodyOf (nthLoop 16 (Try.f44.body.getD .skip))) (nthLoop 16 (Try.f44.body.getD .skip)) (by kernel_rfl) (by
    have e : actOf F44_an (bodyOf (nthLoop 16 (Try.f44.body.getD .skip))) (16 + 1) = [] := by kernel_rfl
    rw [e]
    intro p hp
    cases hp) (F44_l16 N) rfl (fun s x hc h => F44_pat16 N s x hc h) (fun x => rfl) (fun x α kn ke => (F44_body16 N x α kn ke).trans (congrArg ((F44_l16 N).b x α _) (funext fun y => (F44_l16 N).spe y α ke))) (F44_par16 N)
theorem F44_par5 (N : Nat) : Par (F44_l5 N).b := by
  intro x α β kn ke kn' ke' r r' h h1 h2
  revert h
  dsimp only [F44_l5]
  (repeat' (first | (with_reducible refine par_ite ?_ ?_) | (with_reducible refine par_both ?_ ?_) | split)) <;> intro h <;> first | exact h1 _ h | exact h2 _ h | (cases h; done)
theorem F44_body5 (N : Nat) (x : (F44_l5 N).X) (α : Type) (kn : AS → Option α) (ke : Out → Option α) : around (tabOf Try.prog) (F44_g N) F44_an (lam N [(5, F44_l5 N), (16, F44_l16 N)]) 5 (bodyOf (nthLoop 5 (Try.f44.body.getD .skip))) ((F44_l5 N).st x) kn ke = (F44_l5 N).b x α (fun x' => kn ((F44_l5 N).st x')) (fun y => (F44_l5 N).sp y α ke) := by kernel_rfl
theorem F44_pat5 (N : Nat) (s : AS) (x : (F44_l5 N).X) (hc : s = canon (F44_an 5).1 s) (h : (F44_l5 N).p s = some x) : s = (F44_l5 N).st x := by
  dsimp only [F44_l5] at h
  split at h
  · cases h
    exact canon_mk hc ‹_› ‹_› rfl rfl rfl ⟨‹_›, ‹_›, ‹_›, trivial⟩ trivial
  · cases h
theorem F44_loop5 (N : Nat) : ∀ s o, s = canon (F44_an 5).1 s → (lam N [(5, F44_l5 N), (16, F44_l16 N)]).v 5 s = some o → LoopSem Try.prog (nthLoop 5 (Try.f44.body.getD .skip)) s o :=
  loop_ok (tabOf_ok Try.prog) (gam_ok _) mixed F44_an N [(5, F44_l5 N), (16, F44_l16 N)] 5 (bodyOf (nthLoop 5 (Try.f44.body.getD .skip))) (nthLoop 5 (Try.f44.body.getD .skip)) (by kernel_rfl) (by
    have e : actOf F44_an (bodyOf (nthLoop 5 (Try.f44.body.getD .skip))) (5 + 1) = [] := by kernel_rfl
    rw [e]
    intro p hp
    cases hp) (F44_l5 N) rfl (fun s x hc h => F44_pat5 N s x hc h) (fun x => rfl) (fun x α kn ke => (F44_body5 N x α kn ke).trans (congrArg ((F44_l5 N).b x α _) (funext fun y => (F44_l5 N).spe y α ke))) (F44_par5 N)
theorem F44_parF (N : Nat) : ParF (F44_s N).t := by
  intro x α β k k' r r' h h1
  revert h
  dsimp only [F44_s]
  (repeat' (first | (with_reducible refine par_ite ?_ ?_) | (with_reducible refine par_both ?_ ?_) | split)) <;> intro h <;> first | exact h1 _ h | (cases h; done)
theorem F44_text (N : Nat) (x : (F44_s N).X) : acall (tabOf Try.prog) (F44_g N) F44_an (lam N [(5, F44_l5 N), (16, F44_l16 N)]) Try.f44 (F44_s N).S ((F44_s N).args x) ((F44_s N).bs x) = (F44_s N).t x Ret (fun y => some ((F44_s N).ret y)) := by kernel_rfl
theorem F44_pat (N : Nat) (a : List AV) (b : List (List AV)) (x : (F44_s N).X) (h : (F44_s N).pat a b = some x) : a = (F44_s N).args x ∧ b = (F44_s N).bs x := by
  dsimp only [F44_s] at h
  split at h
  · cases h; exact ⟨rfl, rfl⟩
  · cases h
noncomputable def F44_e (N : Nat) : Ent Try.prog := entOf (tabOf_ok Try.prog) (gam_ok _) mixed 44 Try.f44 Try.func44 rfl F44_an (lam N [(5, F44_l5 N), (16, F44_l16 N)]) (by
    have e : actOf F44_an (Try.f44.body.getD .skip) 0 = [(5, nthLoop 5 (Try.f44.body.getD .skip)), (16, nthLoop 16 (Try.f44.body.getD .skip))] := by kernel_rfl
    rw [e]
    intro p hp
    rcases List.mem_cons.1 hp with rfl | hp
    · exact F44_loop5 N
    rcases List.mem_cons.1 hp with rfl | hp
    · exact F44_loop16 N
    cases hp) (F44_s N) (fun _ => ⟨rfl, rfl⟩) (F44_text N) (F44_pat N) (F44_parF N)
/-! ### seismonet/seismonetref05.Words (function 22) -/
def F22_an : Nat → Keep × Keep := anL []
noncomputable def F22_g (N : Nat) : GamK := gam (P := Try.prog) [F43_e N, F44_e N]
noncomputable def F22_s (N : Nat) : FSpec where
  X := (List (List AV))
  Y := Int
  ash := [[some 1]]
  bsh := []
  S := ⟨[[none]], [], [], [], []⟩
  bm := false
  pat := fun a b => match a, b with
    | [(AV.list 1 a0 none)], [] => some a0
    | _, _ => none
  args := fun x => [(AV.list 1 x none)]
  bs := fun x => []
  ret := fun y => ⟨(AV.v (.int .i64 y)), [], none, [], [], []⟩
  t := fun x α k => (match F43_d N x with | some y1 => (match (!y1) with | true => (k 0) | false => (match F44_d N x with | some y2 => (k (y2.length : Int)) | none => none)) | none => none)
noncomputable abbrev F22_d (N : Nat) (x : (List (List AV))) : Option (Int) := (F22_s N).d x
theorem F22_parF (N : Nat) : ParF (F22_s N).t := by
  intro x α β k k' r r' h h1
  revert h
  dsimp only [F22_s]
  (repeat' (first | (with_reducible refine par_ite ?_ ?_) | (with_reducible refine par_both ?_ ?_) | split)) <;> intro h <;> first | exact h1 _ h | (cases h; done)
theorem F22_text (N : Nat) (x : (F22_s N).X) : acall (tabOf Try.prog) (F22_g N) F22_an (lam N []) Try.f22 (F22_s N).S ((F22_s N).args x) ((F22_s N).bs x) = (F22_s N).t x Ret (fun y => some ((F22_s N).ret y)) := by kernel_rfl
theorem F22_pat (N : Nat) (a : List AV) (b : List (List AV)) (x : (F22_s N).X) (h : (F22_s N).pat a b = some x) : a = (F22_s N).args x ∧ b = (F22_s N).bs x := by
  dsimp only [F22_s] at h
  split at h
  · cases h; exact ⟨rfl, rfl⟩
  · cases h
noncomputable def F22_e (N : Nat) : Ent Try.prog := entOf (tabOf_ok Try.prog) (gam_ok _) mixed 22 Try.f22 Try.func22 rfl F22_an (lam N []) (by
    have e : actOf F22_an (Try.f22.body.getD .skip) 0 = [] := by kernel_rfl
    rw [e]
    intro p hp
    cases hp) (F22_s N) (fun _ => ⟨rfl, rfl⟩) (F22_text N) (F22_pat N) (F22_parF N)
/-! ### seismonet/seismonetref05.Frames (function 23) -/
def F23_an : Nat → Keep × Keep := anL []
noncomputable def F23_g (N : Nat) : GamK := gam (P := Try.prog) [F22_e N]
noncomputable def F23_s (N : Nat) : FSpec where
  X := (List (List AV))
  Y := Int
  ash := [[some 1]]
  bsh := []
  S := ⟨[[none]], [], [], [], []⟩
  bm := false
  pat := fun a b => match a, b with
    | [(AV.list 1 a0 none)], [] => some a0
    | _, _ => none
  args := fun x => [(AV.list 1 x none)]
  bs := fun x => []
  ret := fun y => ⟨(AV.v (.int .i64 y)), [], none, [], [], []⟩
  t := fun x α k => (match F22_d N x with | some y1 => (match (y1 == 0) with | true => (k 0) | false => (k (i64 (1 + (i64 ((i64 ((if 0 > (i64 (y1 - 13)) then 0 else (i64 (y1 - 13))) + 14)).tdiv 15)))))) | none => none)
noncomputable abbrev F23_d (N : Nat) (x : (List (List AV))) : Option (Int) := (F23_s N).d x
theorem F23_parF (N : Nat) : ParF (F23_s N).t := by
  intro x α β k k' r r' h h1
  revert h
  dsimp only [F23_s]
  (repeat' (first | (with_reducible refine par_ite ?_ ?_) | (with_reducible refine par_both ?_ ?_) | split)) <;> intro h <;> first | exact h1 _ h | (cases h; done)
theorem F23_text (N : Nat) (x : (F23_s N).X) : acall (tabOf Try.prog) (F23_g N) F23_an (lam N []) Try.f23 (F23_s N).S ((F23_s N).args x) ((F23_s N).bs x) = (F23_s N).t x Ret (fun y => some ((F23_s N).ret y)) := by kernel_rfl
theorem F23_pat (N : Nat) (a : List AV) (b : List (List AV)) (x : (F23_s N).X) (h : (F23_s N).pat a b = some x) : a = (F23_s N).args x ∧ b = (F23_s N).bs x := by
  dsimp only [F23_s] at h
  split at h
  · cases h; exact ⟨rfl, rfl⟩
  · cases h
noncomputable def F23_e (N : Nat) : Ent Try.prog := entOf (tabOf_ok Try.prog) (gam_ok _) mixed 23 Try.f23 Try.func23 rfl F23_an (lam N []) (by
    have e : actOf F23_an (Try.f23.body.getD .skip) 0 = [] := by kernel_rfl
    rw [e]
    intro p hp
    cases hp) (F23_s N) (fun _ => ⟨rfl, rfl⟩) (F23_text N) (F23_pat N) (F23_parF N)
/-! ### seismonet/seismonetref04.SetPair (function 46) -/
def F46_an : Nat → Keep × Keep := anL []
noncomputable def F46_g (N : Nat) : GamK := gam (P := Try.prog) [F42_e N]
noncomputable def F46_s (N : Nat) : FSpec where
  X := Int × Int × Int
  Y := Int × Int
  ash := [[none], [none], [none]]
  bsh := []
  S := ⟨[[none], [none]], [], [], [], []⟩
  bm := false
  pat := fun a b => match a, b with
    | [(AV.v (.int .i64 a0)), (AV.v (.int .i64 a1)), (AV.v (.int .i64 a2))], [] => some (a0, a1, a2)
    | _, _ => none
  args := fun x => [(AV.v (.int .i64 x.1)), (AV.v (.int .i64 x.2.1)), (AV.v (.int .i64 x.2.2))]
  bs := fun x => []
  ret := fun y => ⟨(AV.tup [(AV.v (.int .i64 y.1)), (AV.v (.int .i64 y.2))]), [], none, [], [], []⟩
  t := fun x α k => (match F42_d N (x.1, 0, 4294967295) with | some y1 => (match (!y1) with | true => (k (0, 2)) | false => (match F42_d N (x.2.1, 0, 15) with | some y2 => (match (!y2) with | true => (k (0, 2)) | false => (match F42_d N (x.2.2, 0, 3) with | some y3 => (match (!y3) with | true => (k (0, 2)) | false => (if (IntKind.u64.wrap (i64 (30 - (i64 (2 * x.2.1))))) < 0 then none else (if (IntKind.u64.wrap (i64 (30 - (i64 (2 * x.2.1))))) < 0 then none else (k ((bOr .i64 (bNot .i64 x.1 (shL .i64 (3 : Int) (IntKind.u64.wrap (i64 (30 - (i64 (2 * x.2.1))))))) (shL .i64 x.2.2 (IntKind.u64.wrap (i64 (30 - (i64 (2 * x.2.1))))))), 0))))) | none => none)) | none => none)) | none => none)
noncomputable abbrev F46_d (N : Nat) (x : Int × Int × Int) : Option (Int × Int) := (F46_s N).d x
theorem F46_parF (N : Nat) : ParF (F46_s N).t := by
  intro x α β k k' r r' h h1
  revert h
  dsimp only [F46_s]
  (repeat' (first | (with_reducible refine par_ite ?_ ?_) | (with_reducible refine par_both ?_ ?_) | split)) <;> intro h <;> first | exact h1 _ h | (cases h; done)
theorem F46_text (N : Nat) (x : (F46_s N).X) : acall (tabOf Try.prog) (F46_g N) F46_an (lam N []) Try.f46 (F46_s N).S ((F46_s N).args x) ((F46_s N).bs x) = (F46_s N).t x Ret (fun y => some ((F46_s N).ret y)) := by kernel_rfl
theorem F46_pat (N : Nat) (a : List AV) (b : List (List AV)) (x : (F46_s N).X) (h : (F46_s N).pat a b = some x) : a = (F46_s N).args x ∧ b = (F46_s N).bs x := by
  dsimp only [F46_s] at h
  split at h
  · cases h; exact ⟨rfl, rfl⟩
  · cases h
noncomputable def F46_e (N : Nat) : Ent Try.prog := entOf (tabOf_ok Try.prog) (gam_ok _) mixed 46 Try.f46 Try.func46 rfl F46_an (lam N []) (by
    have e : actOf F46_an (Try.f46.body.getD .skip) 0 = [] := by kernel_rfl
    rw [e]
    intro p hp
    cases hp) (F46_s N) (fun _ => ⟨rfl, rfl⟩) (F46_text N) (F46_pat N) (F46_parF N)
/-! ### seismonet/seismonetref05.append4 (function 47) -/
def F47_an : Nat → Keep × Keep := anL []
noncomputable def F47_g (N : Nat) : GamK := gam (P := Try.prog) [F20_e N]
noncomputable def F47_s (N : Nat) : FSpec where
  X := ByteArray × Int
  Y := ByteArray × Int
  ash := [[none], [none]]
  bsh := []
  S := ⟨[[none], [none]], [], [], [], []⟩
  bm := false
  pat := fun a b => match a, b with
    | [(AV.v (.string a0)), (AV.v (.int .i64 a1))], [] => some (a0, a1)
    | _, _ => none
  args := fun x => [(AV.v (.string x.1)), (AV.v (.int .i64 x.2))]
  bs := fun x => []
  ret := fun y => ⟨(AV.tup [(AV.v (.string y.1)), (AV.v (.int .i64 y.2))]), [], none, [], [], []⟩
  t := fun x α k => (match F20_d N (x.1, x.2, 4) with | some y1 => (k (y1.1, y1.2)) | none => none)
noncomputable abbrev F47_d (N : Nat) (x : ByteArray × Int) : Option (ByteArray × Int) := (F47_s N).d x
theorem F47_parF (N : Nat) : ParF (F47_s N).t := by
  intro x α β k k' r r' h h1
  revert h
  dsimp only [F47_s]
  (repeat' (first | (with_reducible refine par_ite ?_ ?_) | (with_reducible refine par_both ?_ ?_) | split)) <;> intro h <;> first | exact h1 _ h | (cases h; done)
theorem F47_text (N : Nat) (x : (F47_s N).X) : acall (tabOf Try.prog) (F47_g N) F47_an (lam N []) Try.f47 (F47_s N).S ((F47_s N).args x) ((F47_s N).bs x) = (F47_s N).t x Ret (fun y => some ((F47_s N).ret y)) := by kernel_rfl
theorem F47_pat (N : Nat) (a : List AV) (b : List (List AV)) (x : (F47_s N).X) (h : (F47_s N).pat a b = some x) : a = (F47_s N).args x ∧ b = (F47_s N).bs x := by
  dsimp only [F47_s] at h
  split at h
  · cases h; exact ⟨rfl, rfl⟩
  · cases h
noncomputable def F47_e (N : Nat) : Ent Try.prog := entOf (tabOf_ok Try.prog) (gam_ok _) mixed 47 Try.f47 Try.func47 rfl F47_an (lam N []) (by
    have e : actOf F47_an (Try.f47.body.getD .skip) 0 = [] := by kernel_rfl
    rw [e]
    intro p hp
    cases hp) (F47_s N) (fun _ => ⟨rfl, rfl⟩) (F47_text N) (F47_pat N) (F47_parF N)
/-! ### seismonet/seismonetref05.Encode (function 21) -/
def F21_an : Nat → Keep × Keep := anL [(19, ⟨[4, 6, 7], [], [], [(0, 1), (5, 2)], [], [], [], [], false⟩, ⟨[6], [], [], [], [], [], [], [], false⟩), (36, ⟨[4, 6, 7, 8, 10, 11], [], [8], [(0, 1), (5, 2)], [], [], [], [8], false⟩, ⟨[4, 6, 7, 8, 10], [], [8], [(0, 1), (5, 2)], [], [], [], [8], false⟩), (47, ⟨[4, 6, 7, 8, 12], [], [8], [(0, 1), (5, 2)], [], [], [], [8], false⟩, ⟨[4, 6, 7], [], [], [(0, 1), (5, 2)], [], [], [], [], false⟩)]
noncomputable def F21_g (N : Nat) : GamK := gam (P := Try.prog) [F43_e N, F23_e N, F44_e N, F45_e N, F46_e N, F47_e N]
noncomputable def F21_l47 (N : Nat) : LSpec where
  X := (List (List AV)) × (List (List AV)) × Int × ByteArray × Int × Int × (List AV)
  Y := ((List (List AV)) × (List (List AV)) × Int × ByteArray × Int)
  p := fun s => match s.env.length, s.nin, s.at 0, s.at 5, s.at 4, s.at 6, s.at 7, s.at 8, s.at 12, s.bx 8 with
    | 94, 0, (AV.list 1 a0 none), (AV.list 2 a1 none), (AV.v (.int .i64 a2)), (AV.v (.string a3)), (AV.v (.int .i64 a4)), (AV.ptr 8 0), (AV.v (.int .i64 a5)), some a6 => some (a0, a1, a2, a3, a4, a5, a6)
    | _, _, _, _, _, _, _, _, _, _ => none
  st := fun x => mkS 94 [(0, (AV.list 1 x.1 none)), (5, (AV.list 2 x.2.1 none)), (4, (AV.v (.int .i64 x.2.2.1))), (6, (AV.v (.string x.2.2.2.1))), (7, (AV.v (.int .i64 x.2.2.2.2.1))), (8, (AV.ptr 8 0)), (12, (AV.v (.int .i64 x.2.2.2.2.2.1)))] [(8, x.2.2.2.2.2.2)] (F21_an 47).1.toks 0
  out := fun y => (.exit 4, mkS 94 [(0, (AV.list 1 y.1 none)), (5, (AV.list 2 y.2.1 none)), (4, (AV.v (.int .i64 y.2.2.1))), (6, (AV.v (.string y.2.2.2.1))), (7, (AV.v (.int .i64 y.2.2.2.2)))] [] (F21_an 47).2.toks 0)
  sp := fun y α k => k (.exit 4, mkS 94 [(0, (AV.list 1 y.1 none)), (5, (AV.list 2 y.2.1 none)), (4, (AV.v (.int .i64 y.2.2.1))), (6, (AV.v (.string y.2.2.2.1))), (7, (AV.v (.int .i64 y.2.2.2.2)))] [] (F21_an 47).2.toks 0)
  spe := fun y α k => rfl
  b := fun x α kn ke => (match (decide (x.2.2.2.2.2.1 < 16)) with | true => (if 0 ≤ x.2.2.2.2.2.1 ∧ x.2.2.2.2.2.1 < 16 then (match x.2.2.2.2.2.2[(0 + x.2.2.2.2.2.1.toNat * 1)]? with | some x33 => (match x33 with | .v (.int q35 n34) => (if q35 = .i64 then (match F47_d N (x.2.2.2.1, n34) with | some y36 => (kn (x.1, x.2.1, x.2.2.1, y36.1, x.2.2.2.2.1, (i64 (x.2.2.2.2.2.1 + 1)), (x.2.2.2.2.2.2.map dat0))) | none => none) else none) | _ => none) | none => none) else none) | false => (ke (x.1, x.2.1, x.2.2.1, x.2.2.2.1, x.2.2.2.2.1)))
noncomputable abbrev F21_d47 (N : Nat) (x : (List (List AV)) × (List (List AV)) × Int × ByteArray × Int × Int × (List AV)) : Option (((List (List AV)) × (List (List AV)) × Int × ByteArray × Int)) := (F21_l47 N).L N x
noncomputable def F21_l36 (N : Nat) : LSpec where
  X := (List (List AV)) × (List (List AV)) × Int × ByteArray × Int × Int × Int × (List AV)
  Y := ((List (List AV)) × (List (List AV)) × Int × ByteArray × Int × Int × (List AV))
  p := fun s => match s.env.length, s.nin, s.at 0, s.at 5, s.at 4, s.at 6, s.at 7, s.at 8, s.at 10, s.at 11, s.bx 8 with
    | 94, 0, (AV.list 1 a0 none), (AV.list 2 a1 none), (AV.v (.int .i64 a2)), (AV.v (.string a3)), (AV.v (.int .i64 a4)), (AV.ptr 8 0), (AV.v (.int .i64 a5)), (AV.v (.int .i64 a6)), some a7 => some (a0, a1, a2, a3, a4, a5, a6, a7)
    | _, _, _, _, _, _, _, _, _, _, _ => none
  st := fun x => mkS 94 [(0, (AV.list 1 x.1 none)), (5, (AV.list 2 x.2.1 none)), (4, (AV.v (.int .i64 x.2.2.1))), (6, (AV.v (.string x.2.2.2.1))), (7, (AV.v (.int .i64 x.2.2.2.2.1))), (8, (AV.ptr 8 0)), (10, (AV.v (.int .i64 x.2.2.2.2.2.1))), (11, (AV.v (.int .i64 x.2.2.2.2.2.2.1)))] [(8, x.2.2.2.2.2.2.2)] (F21_an 36).1.toks 0
  out := fun y => (.exit 2, mkS 94 [(0, (AV.list 1 y.1 none)), (5, (AV.list 2 y.2.1 none)), (4, (AV.v (.int .i64 y.2.2.1))), (6, (AV.v (.string y.2.2.2.1))), (7, (AV.v (.int .i64 y.2.2.2.2.1))), (8, (AV.ptr 8 0)), (10, (AV.v (.int .i64 y.2.2.2.2.2.1)))] [(8, y.2.2.2.2.2.2)] (F21_an 36).2.toks 0)
  sp := fun y α k => k (.exit 2, mkS 94 [(0, (AV.list 1 y.1 none)), (5, (AV.list 2 y.2.1 none)), (4, (AV.v (.int .i64 y.2.2.1))), (6, (AV.v (.string y.2.2.2.1))), (7, (AV.v (.int .i64 y.2.2.2.2.1))), (8, (AV.ptr 8 0)), (10, (AV.v (.int .i64 y.2.2.2.2.2.1)))] [(8, y.2.2.2.2.2.2)] (F21_an 36).2.toks 0)
  spe := fun y α k => rfl
  b := fun x α kn ke => (match (decide (x.2.2.2.2.2.2.1 < 16)) with | true => (match (decide ((x.2.1.length : Int) > 0)) with | true => (if 0 ≤ (0 : Int) then (match x.2.1[(0 : Int).toNat]? with | some c23 => (match (c23.drop 0)[0]? with | some x24 => (match x24 with | .v (.int q26 n25) => (if q26 = .i64 then (match F46_d N (x.2.2.2.2.2.1, x.2.2.2.2.2.2.1, n25) with | some y27 => (if 0 ≤ (0 : Int) then (match x.2.1[(0 : Int).toNat]? with | some c28 => (match (c28.drop 1)[0]? with | some x29 => (match x29 with | .v (.int q31 n30) => (if q31 = .i64 then (if 0 ≤ x.2.2.2.2.2.2.1 ∧ x.2.2.2.2.2.2.1 < 16 then (if (0 + x.2.2.2.2.2.2.1.toNat * 1) + 1 ≤ x.2.2.2.2.2.2.2.length then (if 0 ≤ (1 : Int) ∧ (1 : Int) ≤ x.2.1.length then (kn (x.1, (x.2.1.drop (1 : Int).toNat), x.2.2.1, x.2.2.2.1, x.2.2.2.2.1, y27.1, (i64 (x.2.2.2.2.2.2.1 + 1)), ((x.2.2.2.2.2.2.2.set ((0 + x.2.2.2.2.2.2.1.toNat * 1)) (AV.v (.int .i64 n30))).map dat0))) else none) else none) else none) else none) | _ => none) | none => none) | none => none) else none) | none => none) else none) | _ => none) | none => none) | none => none) else none) | false => (ke (x.1, x.2.1, x.2.2.1, x.2.2.2.1, x.2.2.2.2.1, x.2.2.2.2.2.1, (x.2.2.2.2.2.2.2.map dat0)))) | false => (ke (x.1, x.2.1, x.2.2.1, x.2.2.2.1, x.2.2.2.2.1, x.2.2.2.2.2.1, (x.2.2.2.2.2.2.2.map dat0))))
noncomputable abbrev F21_d36 (N : Nat) (x : (List (List AV)) × (List (List AV)) × Int × ByteArray × Int × Int × Int × (List AV)) : Option (((List (List AV)) × (List (List AV)) × Int × ByteArray × Int × Int × (List AV))) := (F21_l36 N).L N x
noncomputable def F21_l19 (N : Nat) : LSpec where
  X := (List (List AV)) × (List (List AV)) × Int × ByteArray × Int
  Y := (ByteArray)
  p := fun s => match s.env.length, s.nin, s.at 0, s.at 5, s.at 4, s.at 6, s.at 7 with
    | 94, 0, (AV.list 1 a0 none), (AV.list 2 a1 none), (AV.v (.int .i64 a2)), (AV.v (.string a3)), (AV.v (.int .i64 a4)) => some (a0, a1, a2, a3, a4)
    | _, _, _, _, _, _, _ => none
  st := fun x => mkS 94 [(0, (AV.list 1 x.1 none)), (5, (AV.list 2 x.2.1 none)), (4, (AV.v (.int .i64 x.2.2.1))), (6, (AV.v (.string x.2.2.2.1))), (7, (AV.v (.int .i64 x.2.2.2.2)))] [] (F21_an 19).1.toks 0
  out := fun y => (.exit 0, mkS 94 [(6, (AV.v (.string y)))] [] (F21_an 19).2.toks 0)
  sp := fun y α k => k (.exit 0, mkS 94 [(6, (AV.v (.string y)))] [] (F21_an 19).2.toks 0)
  spe := fun y α k => rfl
  b := fun x α kn ke => (match (decide (x.2.2.2.2 < x.2.2.1)) with | true => (match (x.2.2.2.2 == 0) with | true => (if 0 ≤ (0 : Int) then (match x.1[(0 : Int).toNat]? with | some c4 => (match c4[0]? with | some x5 => (match x5 with | .v (.int q7 n6) => (if q7 = .i64 then (match F45_d N (n6, 32) with | some y8 => (if 0 ≤ (i64 ((x.1.length : Int) - 1)) then (match x.1[(i64 ((x.1.length : Int) - 1)).toNat]? with | some c9 => (match c9[0]? with | some x10 => (match x10 with | .v (.int q12 n11) => (if q12 = .i64 then (match F45_d N (n11, 32) with | some y13 => (match F21_d36 N (x.1, x.2.1, x.2.2.1, x.2.2.2.1, x.2.2.2.2, 0, 3, ([(AV.v (.int .i64 0)), (AV.v (.int .i64 y8.1)), (AV.v (.int .i64 y13.1)), (AV.v (.int .i64 0)), (AV.v (.int .i64 0)), (AV.v (.int .i64 0)), (AV.v (.int .i64 0)), (AV.v (.int .i64 0)), (AV.v (.int .i64 0)), (AV.v (.int .i64 0)), (AV.v (.int .i64 0)), (AV.v (.int .i64 0)), (AV.v (.int .i64 0)), (AV.v (.int .i64 0)), (AV.v (.int .i64 0)), (AV.v (.int .i64 0))].map dat0)) with | some y32 => (if 0 + 1 ≤ y32.2.2.2.2.2.2.length then (match F21_d47 N (y32.1, y32.2.1, y32.2.2.1, y32.2.2.2.1, y32.2.2.2.2.1, 0, ((y32.2.2.2.2.2.2.set (0) (AV.v (.int .i64 y32.2.2.2.2.2.1))).map dat0)) with | some y37 => (kn (y37.1, y37.2.1, y37.2.2.1, y37.2.2.2.1, (i64 (y37.2.2.2.2 + 1)))) | none => none) else none) | none => none) | none => none) else none) | _ => none) | none => none) | none => none) else none) | none => none) else none) | _ => none) | none => none) | none => none) else none) | false => (match F21_d36 N (x.1, x.2.1, x.2.2.1, x.2.2.2.1, x.2.2.2.2, 0, 1, ([(AV.v (.int .i64 0)), (AV.v (.int .i64 0)), (AV.v (.int .i64 0)), (AV.v (.int .i64 0)), (AV.v (.int .i64 0)), (AV.v (.int .i64 0)), (AV.v (.int .i64 0)), (AV.v (.int .i64 0)), (AV.v (.int .i64 0)), (AV.v (.int .i64 0)), (AV.v (.int .i64 0)), (AV.v (.int .i64 0)), (AV.v (.int .i64 0)), (AV.v (.int .i64 0)), (AV.v (.int .i64 0)), (AV.v (.int .i64 0))].map dat0)) with | some y38 => (if 0 + 1 ≤ y38.2.2.2.2.2.2.length then (match F21_d47 N (y38.1, y38.2.1, y38.2.2.1, y38.2.2.2.1, y38.2.2.2.2.1, 0, ((y38.2.2.2.2.2.2.set (0) (AV.v (.int .i64 y38.2.2.2.2.2.1))).map dat0)) with | some y39 => (kn (y39.1, y39.2.1, y39.2.2.1, y39.2.2.2.1, (i64 (y39.2.2.2.2 + 1)))) | none => none) else none) | none => none)) | false => (ke x.2.2.2.1))
noncomputable abbrev F21_d19 (N : Nat) (x : (List (List AV)) × (List (List AV)) × Int × ByteArray × Int) : Option ((ByteArray)) := (F21_l19 N).L N x
noncomputable def F21_s (N : Nat) : FSpec where
  X := (List (List AV))
  Y := ByteArray × Int
  ash := [[some 1]]
  bsh := []
  S := ⟨[[none], [none]], [], [], [], []⟩
  bm := false
  pat := fun a b => match a, b with
    | [(AV.list 1 a0 none)], [] => some a0
    | _, _ => none
  args := fun x => [(AV.list 1 x none)]
  bs := fun x => []
  ret := fun y => ⟨(AV.tup [(AV.v (.string y.1)), (AV.v (.int .i64 y.2))]), [], none, [], [], []⟩
  t := fun x α k => (match ((x.length : Int) == 0) with | true => (k ((⟨#[]⟩ : ByteArray), 1)) | false => (match F43_d N x with | some y1 => (match (!y1) with | true => (k ((⟨#[]⟩ : ByteArray), 2)) | false => (match F23_d N x with | some y2 => (match (decide (y2 > 8)) with | true => (k ((⟨#[]⟩ : ByteArray), 8)) | false => (match F44_d N x with | some y3 => (match F21_d19 N (x, y3, y2, (⟨#[]⟩ : ByteArray), 0) with | some y40 => (k (y40, 0)) | none => none) | none => none)) | none => none)) | none => none))
noncomputable abbrev F21_d (N : Nat) (x : (List (List AV))) : Option (ByteArray × Int) := (F21_s N).d x
theorem F21_par47 (N : Nat) : Par (F21_l47 N).b := by
  intro x α β kn ke kn' ke' r r' h h1 h2
  revert h
  dsimp only [F21_l47]
  (repeat' (first | (with_reducible refine par_ite ?_ ?_) | (with_reducible refine par_both ?_ ?_) | split)) <;> intro h <;> first | exact h1 _ h | exact h2 _ h | (cases h; done)
theorem F21_body47 (N : Nat) (x : (F21_l47 N).X) (α : Type) (kn : AS → Option α) (ke : Out → Option α) : around (tabOf Try.prog) (F21_g N) F21_an (lam N [(19, F21_l19 N), (36, F21_l36 N), (47, F21_l47 N)]) 47 (bodyOf (nthLoop 47 (Try.f21.body.getD .skip))) ((F21_l47 N).st x) kn ke = (F21_l47 N).b x α (fun x' => kn ((F21_l47 N).st x')) (fun y => (F21_l47 N).sp y α ke) := by kernel_rfl
theorem F21_pat47 (N : Nat) (s : AS) (x : (F21_l47 N).X) (hc : s = canon (F21_an 47).1 s) (h : (F21_l47 N).p s = some x) : s = (F21_l47 N).st x := by
  dsimp only [F21_l47] at h
  split at h
  · cases h
    exact canon_mk hc ‹_› ‹_› rfl rfl rfl ⟨‹_›, ‹_›, ‹_›, ‹_›, ‹_›, ‹_›, ‹_›, trivial⟩ ⟨‹_›, trivial⟩
  · cases h
theorem F21_loop47 (N : Nat) : ∀ s o, s = canon (F21_an 47).1 s → (lam N [(19, F21_l19 N), (36, F21_l36 N), (47, F21_l47 N)]).v 47 s = some o → LoopSem Try.prog (nthLoop 47 (Try.f21.body.getD .skip)) s o :=
  loop_ok (tabOf_ok Try.prog) (gam_ok _) mixed F21_an N [(19, F21_l19 N), (36, F21_l36 N), (47, F21_l47 N)] 47 (bodyOf (nthLoop 47 (Try.f21.body.getD .skip))) (nthLoop 47 (Try.f21.body.getD .skip)) (by kernel_rfl) (by
    have e : actOf F21_an (bodyOf (nthLoop 47 (Try.f21.body.getD .skip))) (47 + 1) = [] := by kernel_rfl
    rw [e]
    intro p hp
    cases hp) (F21_l47 N) rfl (fun s x hc h => F21_pat47 N s x hc h) (fun x => rfl) (fun x α kn ke => (F21_body47 N x α kn ke).trans (congrArg ((F21_l47 N).b x α _) (funext fun y => (F21_l47 N).spe y α ke))) (F21_par47 N)
theorem F21_par36 (N : Nat) : Par (F21_l36 N).b := by
  intro x α β kn ke kn' ke' r r' h h1 h2
  revert h
  dsimp only [F21_l36]
  (repeat' (first | (with_reducible refine par_ite ?_ ?_) | (with_reducible refine par_both ?_ ?_) | split)) <;> intro h <;> first | exact h1 _ h | exact h2 _ h | (cases h; done)
theorem F21_body36 (N : Nat) (x : (F21_l36 N).X) (α : Type) (kn : AS → Option α) (ke : Out → Option α) : around (tabOf Try.prog) (F21_g N) F21_an (lam N [(19, F21_l19 N), (36, F21_l36 N), (47, F21_l47 N)]) 36 (bodyOf (nthLoop 36 (Try.f21.body.getD .skip))) ((F21_l36 N).st x) kn ke = (F21_l36 N).b x α (fun x' => kn ((F21_l36 N).st x')) (fun y => (F21_l36 N).sp y α ke) := by kernel_rfl
theorem F21_pat36 (N : Nat) (s : AS) (x : (F21_l36 N).X) (hc : s = canon (F21_an 36).1 s) (h : (F21_l36 N).p s = some x) : s = (F21_l36 N).st x := by
  dsimp only [F21_l36] at h
  split at h
  · cases h
    exact canon_mk hc ‹_› ‹_› rfl rfl rfl ⟨‹_›, ‹_›, ‹_›, ‹_›, ‹_›, ‹_›, ‹_›, ‹_›, trivial⟩ ⟨‹_›, trivial⟩
  · cases h
theorem F21_loop36 (N : Nat) : ∀ s o, s = canon (F21_an 36).1 s → (lam N [(19, F21_l19 N), (36, F21_l36 N), (47, F21_l47 N)]).v 36 s = some o → LoopSem Try.prog (nthLoop 36 (Try.f21.body.getD .skip)) s o :=
  loop_ok (tabOf_ok Try.prog) (gam_ok _) mixed F21_an N [(19, F21_l19 N), (36, F21_l36 N), (47, F21_l47 N)] 36 (bodyOf (nthLoop 36 (Try.f21.body.getD .skip))) (nthLoop 36 (Try.f21.body.getD .skip)) (by kernel_rfl) (by
    have e : actOf F21_an (bodyOf (nthLoop 36 (Try.f21.body.getD .skip))) (36 + 1) = [] := by kernel_rfl
    rw [e]
    intro p hp
    cases hp) (F21_l36 N) rfl (fun s x hc h => F21_pat36 N s x hc h) (fun x => rfl) (fun x α kn ke => (F21_body36 N x α kn ke).trans (congrArg ((F21_l36 N).b x α _) (funext fun y => (F21_l36 N).spe y α ke))) (F21_par36 N)
theorem F21_par19 (N : Nat) : Par (F21_l19 N).b := by
  intro x α β kn ke kn' ke' r r' h h1 h2
  revert h
  dsimp only [F21_l19]
  (repeat' (first | (with_reducible refine par_ite ?_ ?_) | (with_reducible refine par_both ?_ ?_) | split)) <;> intro h <;> first | exact h1 _ h | exact h2 _ h | (cases h; done)
theorem F21_body19 (N : Nat) (x : (F21_l19 N).X) (α : Type) (kn : AS → Option α) (ke : Out → Option α) : around (tabOf Try.prog) (F21_g N) F21_an (lam N [(19, F21_l19 N), (36, F21_l36 N), (47, F21_l47 N)]) 19 (bodyOf (nthLoop 19 (Try.f21.body.getD .skip))) ((F21_l19 N).st x) kn ke = (F21_l19 N).b x α (fun x' => kn ((F21_l19 N).st x')) (fun y => (F21_l19 N).sp y α ke) := by kernel_rfl
theorem F21_pat19 (N : Nat) (s : AS) (x : (F21_l19 N).X) (hc : s = canon (F21_an 19).1 s) (h : (F21_l19 N).p s = some x) : s = (F21_l19 N).st x := by
  dsimp only [F21_l19] at h
  split at h
  · cases h
    exact canon_mk hc ‹_› ‹_› rfl rfl rfl ⟨‹_›, ‹_›, ‹_›, ‹_›, ‹_›, trivial⟩ trivial
  · cases h
theorem F21_loop19 (N : Nat) : ∀ s o, s = canon (F21_an 19).1 s → (lam N [(19, F21_l19 N), (36, F21_l36 N), (47, F21_l47 N)]).v 19 s = some o → LoopSem Try.prog (nthLoop 19 (Try.f21.body.getD .skip)) s o :=
  loop_ok (tabOf_ok Try.prog) (gam_ok _) mixed F21_an N [(19, F21_l19 N), (36, F21_l36 N), (47, F21_l47 N)] 19 (bodyOf (nthLoop 19 (Try.f21.body.getD .skip))) (nthLoop 19 (Try.f21.body.getD .skip)) (by kernel_rfl) (by
    have e : actOf F21_an (bodyOf (nthLoop 19 (Try.f21.body.getD .skip))) (19 + 1) = [(36, nthLoop 36 (Try.f21.body.getD .skip)), (47, nthLoop 47 (Try.f21.body.getD .skip))] := by kernel_rfl
    rw [e]
    intro p hp
    rcases List.mem_cons.1 hp with rfl | hp
    · exact F21_loop36 N
    rcases List.mem_cons.1 hp with rfl | hp
    · exact F21_loop47 N
    cases hp) (F21_l19 N) rfl (fun s x hc h => F21_pat19 N s x hc h) (fun x => rfl) (fun x α kn ke => (F21_body19 N x α kn ke).trans (congrArg ((F21_l19 N).b x α _) (funext fun y => (F21_l19 N).spe y α ke))) (F21_par19 N)
theorem F21_parF (N : Nat) : ParF (F21_s N).t := by
  intro x α β k k' r r' h h1
  revert h
  dsimp only [F21_s]
  (repeat' (first | (with_reducible refine par_ite ?_ ?_) | (with_reducible refine par_both ?_ ?_) | split)) <;> intro h <;> first | exact h1 _ h | (cases h; done)
theorem F21_text (N : Nat) (x : (F21_s N).X) : acall (tabOf Try.prog) (F21_g N) F21_an (lam N [(19, F21_l19 N), (36, F21_l36 N), (47, F21_l47 N)]) Try.f21 (F21_s N).S ((F21_s N).args x) ((F21_s N).bs x) = (F21_s N).t x Ret (fun y => some ((F21_s N).ret y)) := by kernel_rfl
theorem F21_pat (N : Nat) (a : List AV) (b : List (List AV)) (x : (F21_s N).X) (h : (F21_s N).pat a b = some x) : a = (F21_s N).args x ∧ b = (F21_s N).bs x := by
  dsimp only [F21_s] at h
  split at h
  · cases h; exact ⟨rfl, rfl⟩
  · cases h
noncomputable def F21_e (N : Nat) : Ent Try.prog := entOf (tabOf_ok Try.prog) (gam_ok _) mixed 21 Try.f21 Try.func21 rfl F21_an (lam N [(19, F21_l19 N), (36, F21_l36 N), (47, F21_l47 N)]) (by
    have e : actOf F21_an (Try.f21.body.getD .skip) 0 = [(19, nthLoop 19 (Try.f21.body.getD .skip)), (36, nthLoop 36 (Try.f21.body.getD .skip)), (47, nthLoop 47 (Try.f21.body.getD .skip))] := by kernel_rfl
    rw [e]
    intro p hp
    rcases List.mem_cons.1 hp with rfl | hp
    · exact F21_loop19 N
    rcases List.mem_cons.1 hp with rfl | hp
    · exact F21_loop36 N
    rcases List.mem_cons.1 hp with rfl | hp
    · exact F21_loop47 N
    cases hp) (F21_s N) (fun _ => ⟨rfl, rfl⟩) (F21_text N) (F21_pat N) (F21_parF N)
/-! ### seismonet/seismonetlaw05.damage (function 24) -/
def F24_an : Nat → Keep × Keep := anL []
noncomputable def F24_g (N : Nat) : GamK := gam (P := Try.prog) [F11_e N, F12_e N]
noncomputable def F24_s (N : Nat) : FSpec where
  X := ByteArray × (List (List AV)) × Int
  Y := ByteArray × (List (List AV)) × Int
  ash := [[none], [none]]
  bsh := [[some 1, none]]
  S := ⟨[[none]], [[some 1, none]], [], [], []⟩
  bm := false
  pat := fun a b => match a, b with
    | [(AV.ptr 0 0), (AV.v (.string a0))], [[(AV.list 1 a1 none), (AV.v (.int .i64 a2))]] => some (a0, a1, a2)
    | _, _ => none
  args := fun x => [(AV.ptr 0 0), (AV.v (.string x.1))]
  bs := fun x => [[(AV.list 1 x.2.1 none), (AV.v (.int .i64 x.2.2))]]
  ret := fun y => ⟨(AV.v (.string y.1)), [[(AV.list 1 y.2.1 none), (AV.v (.int .i64 y.2.2))]], none, [], [], []⟩
  t := fun x α k => (match (x.1.toList == (⟨#[]⟩ : ByteArray).toList) with | true => (k (x.1, x.2.1, x.2.2)) | false => (match F11_d N (5, x.2.1, x.2.2) with | some y1 => (match (y1.1 == 0) with | true => (match F11_d N ((x.1.size : Int), y1.2.1, y1.2.2) with | some y2 => (if 0 ≤ y2.1 ∧ y2.1 ≤ x.1.size then (k ((x.1.extract 0 y2.1.toNat), y2.2.1, y2.2.2)) else none) | none => none) | false => (match (y1.1 == 1) with | true => (if x.1.size + x.1.size ≤ 9223372036854775807 then (k ((x.1 ++ x.1), y1.2.1, y1.2.2)) else none) | false => (match (y1.1 == 2) with | true => (match F12_d N ([[(AV.v (.int .i64 0))], [(AV.v (.int .i64 1))], [(AV.v (.int .i64 2))], [(AV.v (.int .i64 3))]], y1.2.1, y1.2.2) with | some y3 => (if 0 ≤ y3.1 ∧ y3.1 ≤ x.1.size then (match F11_d N (256, y3.2.1, y3.2.2) with | some y4 => (match numsOf ([[(AV.v (.int .u8 (IntKind.u8.wrap y4.1)))]]) with | some s5 => (if (x.1.extract 0 y3.1.toNat).size + (strOfNums s5).size ≤ 9223372036854775807 then (if 0 ≤ (i64 (y3.1 + 1)) ∧ (i64 (y3.1 + 1)) ≤ x.1.size then (if ((x.1.extract 0 y3.1.toNat) ++ (strOfNums s5)).size + (x.1.extract (i64 (y3.1 + 1)).toNat x.1.size).size ≤ 9223372036854775807 then (k ((((x.1.extract 0 y3.1.toNat) ++ (strOfNums s5)) ++ (x.1.extract (i64 (y3.1 + 1)).toNat x.1.size)), y4.2.1, y4.2.2)) else none) else none) else none) | none => none) | none => none) else none) | none => none) | false => (match F11_d N ((x.1.size : Int), y1.2.1, y1.2.2) with | some y6 => (if 0 ≤ y6.1 ∧ y6.1 ≤ x.1.size then (match F11_d N (256, y6.2.1, y6.2.2) with | some y7 => (match numsOf ([[(AV.v (.int .u8 (IntKind.u8.wrap y7.1)))]]) with | some s8 => (if (x.1.extract 0 y6.1.toNat).size + (strOfNums s8).size ≤ 9223372036854775807 then (if 0 ≤ (i64 (y6.1 + 1)) ∧ (i64 (y6.1 + 1)) ≤ x.1.size then (if ((x.1.extract 0 y6.1.toNat) ++ (strOfNums s8)).size + (x.1.extract (i64 (y6.1 + 1)).toNat x.1.size).size ≤ 9223372036854775807 then (k ((((x.1.extract 0 y6.1.toNat) ++ (strOfNums s8)) ++ (x.1.extract (i64 (y6.1 + 1)).toNat x.1.size)), y7.2.1, y7.2.2)) else none) else none) else none) | none => none) | none => none) else none) | none => none)))) | none => none))
noncomputable abbrev F24_d (N : Nat) (x : ByteArray × (List (List AV)) × Int) : Option (ByteArray × (List (List AV)) × Int) := (F24_s N).d x
theorem F24_parF (N : Nat) : ParF (F24_s N).t := by
  intro x α β k k' r r' h h1
  revert h
  dsimp only [F24_s]
  (repeat' (first | (with_reducible refine par_ite ?_ ?_) | (with_reducible refine par_both ?_ ?_) | split)) <;> intro h <;> first | exact h1 _ h | (cases h; done)
theorem F24_text (N : Nat) (x : (F24_s N).X) : acall (tabOf Try.prog) (F24_g N) F24_an (lam N []) Try.f24 (F24_s N).S ((F24_s N).args x) ((F24_s N).bs x) = (F24_s N).t x Ret (fun y => some ((F24_s N).ret y)) := by kernel_rfl
theorem F24_pat (N : Nat) (a : List AV) (b : List (List AV)) (x : (F24_s N).X) (h : (F24_s N).pat a b = some x) : a = (F24_s N).args x ∧ b = (F24_s N).bs x := by
  dsimp only [F24_s] at h
  split at h
  · cases h; exact ⟨rfl, rfl⟩
  · cases h
noncomputable def F24_e (N : Nat) : Ent Try.prog := entOf (tabOf_ok Try.prog) (gam_ok _) mixed 24 Try.f24 Try.func24 rfl F24_an (lam N []) (by
    have e : actOf F24_an (Try.f24.body.getD .skip) 0 = [] := by kernel_rfl
    rw [e]
    intro p hp
    cases hp) (F24_s N) (fun _ => ⟨rfl, rfl⟩) (F24_text N) (F24_pat N) (F24_parF N)
/-! ### seismonet/seismonetref04.Pair (function 52) -/
def F52_an : Nat → Keep × Keep := anL []
noncomputable def F52_g (N : Nat) : GamK := gam (P := Try.prog) [F42_e N]
noncomputable def F52_s (N : Nat) : FSpec where
  X := Int × Int
  Y := Int × Int
  ash := [[none], [none]]
  bsh := []
  S := ⟨[[none], [none]], [], [], [], []⟩
  bm := false
  pat := fun a b => match a, b with
    | [(AV.v (.int .i64 a0)), (AV.v (.int .i64 a1))], [] => some (a0, a1)
    | _, _ => none
  args := fun x => [(AV.v (.int .i64 x.1)), (AV.v (.int .i64 x.2))]
  bs := fun x => []
  ret := fun y => ⟨(AV.tup [(AV.v (.int .i64 y.1)), (AV.v (.int .i64 y.2))]), [], none, [], [], []⟩
  t := fun x α k => (match F42_d N (x.1, 0, 4294967295) with | some y1 => (match (!y1) with | true => (k (0, 2)) | false => (match F42_d N (x.2, 0, 15) with | some y2 => (match (!y2) with | true => (k (0, 2)) | false => (if (IntKind.u64.wrap (i64 (30 - (i64 (2 * x.2))))) < 0 then none else (k ((bAnd .i64 (shR .i64 x.1 (IntKind.u64.wrap (i64 (30 - (i64 (2 * x.2)))))) (3 : Int)), 0)))) | none => none)) | none => none)
noncomputable abbrev F52_d (N : Nat) (x : Int × Int) : Option (Int × Int) := (F52_s N).d x
theorem F52_parF (N : Nat) : ParF (F52_s N).t := by
  intro x α β k k' r r' h h1
  revert h
  dsimp only [F52_s]
  (repeat' (first | (with_reducible refine par_ite ?_ ?_) | (with_reducible refine par_both ?_ ?_) | split)) <;> intro h <;> first | exact h1 _ h | (cases h; done)
theorem F52_text (N : Nat) (x : (F52_s N).X) : acall (tabOf Try.prog) (F52_g N) F52_an (lam N []) Try.f52 (F52_s N).S ((F52_s N).args x) ((F52_s N).bs x) = (F52_s N).t x Ret (fun y => some ((F52_s N).ret y)) := by kernel_rfl
theorem F52_pat (N : Nat) (a : List AV) (b : List (List AV)) (x : (F52_s N).X) (h : (F52_s N).pat a b = some x) : a = (F52_s N).args x ∧ b = (F52_s N).bs x := by
  dsimp only [F52_s] at h
  split at h
  · cases h; exact ⟨rfl, rfl⟩
  · cases h
noncomputable def F52_e (N : Nat) : Ent Try.prog := entOf (tabOf_ok Try.prog) (gam_ok _) mixed 52 Try.f52 Try.func52 rfl F52_an (lam N []) (by
    have e : actOf F52_an (Try.f52.body.getD .skip) 0 = [] := by kernel_rfl
    rw [e]
    intro p hp
    cases hp) (F52_s N) (fun _ => ⟨rfl, rfl⟩) (F52_text N) (F52_pat N) (F52_parF N)
/-! ### seismonet/seismonetref05.Codes (function 29) -/
def F29_an : Nat → Keep × Keep := anL [(10, ⟨[4, 7], [(6, 1)], [], [], [], [], [], [], false⟩, ⟨[], [(6, 1)], [], [], [], [], [], [], false⟩)]
noncomputable def F29_g (N : Nat) : GamK := gam (P := Try.prog) [F19_e N, F52_e N]
noncomputable def F29_l10 (N : Nat) : LSpec where
  X := (List (List AV)) × Int × Int
  Y := ((List (List AV)))
  p := fun s => match s.env.length, s.nin, s.at 6, s.at 4, s.at 7 with
    | 33, 0, (AV.list 1 a0 (some 1280000384)), (AV.v (.int .i64 a1)), (AV.v (.int .i64 a2)) => some (a0, a1, a2)
    | _, _, _, _, _ => none
  st := fun x => mkS 33 [(6, (AV.list 1 x.1 (some 1280000384))), (4, (AV.v (.int .i64 x.2.1))), (7, (AV.v (.int .i64 x.2.2)))] [] (F29_an 10).1.toks 0
  out := fun y => (.exit 0, mkS 33 [(6, (AV.list 1 y (some 1280000384)))] [] (F29_an 10).2.toks 0)
  sp := fun y α k => k (.exit 0, mkS 33 [(6, (AV.list 1 y (some 1280000384)))] [] (F29_an 10).2.toks 0)
  spe := fun y α k => rfl
  b := fun x α kn ke => (match (decide (x.2.2 < 16)) with | true => (match F52_d N (x.2.1, x.2.2) with | some y2 => (if (x.1.length + [[(AV.v (.int .i64 y2.1))]].length) * 8 ≤ maxBytes then (kn ((x.1 ++ [[(AV.v (.int .i64 y2.1))]]), x.2.1, (i64 (x.2.2 + 1)))) else none) | none => none) | false => (ke x.1))
noncomputable abbrev F29_d10 (N : Nat) (x : (List (List AV)) × Int × Int) : Option (((List (List AV)))) := (F29_l10 N).L N x
noncomputable def F29_s (N : Nat) : FSpec where
  X := ByteArray
  Y := (List (List AV)) × Int
  ash := [[none]]
  bsh := []
  S := ⟨[[some 2000001], [none]], [], [], [], []⟩
  bm := false
  pat := fun a b => match a, b with
    | [(AV.v (.string a0))], [] => some a0
    | _, _ => none
  args := fun x => [(AV.v (.string x))]
  bs := fun x => []
  ret := fun y => ⟨(AV.tup [(AV.list 1 y.1 (some 2560000000)), (AV.v (.int .i64 y.2))]), [], none, [], [2560000000], []⟩
  t := fun x α k => (match ((x.size : Int) != 64) with | true => (k (([] : List (List AV)), 3)) | false => (match F19_d N (x, 0, 4) with | some y1 => (match F29_d10 N (([] : List (List AV)), y1.1, 0) with | some y3 => (k (y3, 0)) | none => none) | none => none))
noncomputable abbrev F29_d (N : Nat) (x : ByteArray) : Option ((List (List AV)) × Int) := (F29_s N).d x
theorem F29_par10 (N : Nat) : Par (F29_l10 N).b := by
  intro x α β kn ke kn' ke' r r' h h1 h2
  revert h
  dsimp only [F29_l10]
  (repeat' (first | (with_reducible refine par_ite ?_ ?_) | (with_reducible refine par_both ?_ ?_) | split)) <;> intro h <;> first | exact h1 _ h | exact h2 _ h | (cases h; done)
theorem F29_body10 (N : Nat) (x : (F29_l10 N).X) (α : Type) (kn : AS → Option α) (ke : Out → Option α) : around (tabOf Try.prog) (F29_g N) F29_an (lam N [(10, F29_l10 N)]) 10 (bodyOf (nthLoop 10 (Try.f29.body.getD .skip))) ((F29_l10 N).st x) kn ke = (F29_l10 N).b x α (fun x' => kn ((F29_l10 N).st x')) (fun y => (F29_l10 N).sp y α ke) := by kernel_rfl
theorem F29_pat10 (N : Nat) (s : AS) (x : (F29_l10 N).X) (hc : s = canon (F29_an 10).1 s) (h : (F29_l10 N).p s = some x) : s = (F29_l10 N).st x := by
  dsimp only [F29_l10] at h
  split at h
  · cases h
    exact canon_mk hc ‹_› ‹_› rfl rfl rfl ⟨‹_›, ‹_›, ‹_›, trivial⟩ trivial
  · cases h
theorem F29_loop10 (N : Nat) : ∀ s o, s = canon (F29_an 10).1 s → (lam N [(10, F29_l10 N)]).v 10 s = some o → LoopSem Try.prog (nthLoop 10 (Try.f29.body.getD .skip)) s o :=
  loop_ok (tabOf_ok Try.prog) (gam_ok _) mixed F29_an N [(10, F29_l10 N)] 10 (bodyOf (nthLoop 10 (Try.f29.body.getD .skip))) (nthLoop 10 (Try.f29.body.getD .skip)) (by kernel_rfl) (by
    have e : actOf F29_an (bodyOf (nthLoop 10 (Try.f29.body.getD .skip))) (10 + 1) = [] := by kernel_rfl
    rw [e]
    intro p hp
    cases hp) (F29_l10 N) rfl (fun s x hc h => F29_pat10 N s x hc h) (fun x => rfl) (fun x α kn ke => (F29_body10 N x α kn ke).trans (congrArg ((F29_l10 N).b x α _) (funext fun y => (F29_l10 N).spe y α ke))) (F29_par10 N)
theorem F29_parF (N : Nat) : ParF (F29_s N).t := by
  intro x α β k k' r r' h h1
  revert h
  dsimp only [F29_s]
  (repeat' (first | (with_reducible refine par_ite ?_ ?_) | (with_reducible refine par_both ?_ ?_) | split)) <;> intro h <;> first | exact h1 _ h | (cases h; done)
theorem F29_text (N : Nat) (x : (F29_s N).X) : acall (tabOf Try.prog) (F29_g N) F29_an (lam N [(10, F29_l10 N)]) Try.f29 (F29_s N).S ((F29_s N).args x) ((F29_s N).bs x) = (F29_s N).t x Ret (fun y => some ((F29_s N).ret y)) := by kernel_rfl
theorem F29_pat (N : Nat) (a : List AV) (b : List (List AV)) (x : (F29_s N).X) (h : (F29_s N).pat a b = some x) : a = (F29_s N).args x ∧ b = (F29_s N).bs x := by
  dsimp only [F29_s] at h
  split at h
  · cases h; exact ⟨rfl, rfl⟩
  · cases h
noncomputable def F29_e (N : Nat) : Ent Try.prog := entOf (tabOf_ok Try.prog) (gam_ok _) mixed 29 Try.f29 Try.func29 rfl F29_an (lam N [(10, F29_l10 N)]) (by
    have e : actOf F29_an (Try.f29.body.getD .skip) 0 = [(10, nthLoop 10 (Try.f29.body.getD .skip))] := by kernel_rfl
    rw [e]
    intro p hp
    rcases List.mem_cons.1 hp with rfl | hp
    · exact F29_loop10 N
    cases hp) (F29_s N) (fun _ => ⟨rfl, rfl⟩) (F29_text N) (F29_pat N) (F29_parF N)
/-! ### seismonet/seismonetref04.Sign (function 49) -/
def F49_an : Nat → Keep × Keep := anL []
noncomputable def F49_g (N : Nat) : GamK := gam (P := Try.prog) [F42_e N]
noncomputable def F49_s (N : Nat) : FSpec where
  X := Int × Int
  Y := Int × Int
  ash := [[none], [none]]
  bsh := []
  S := ⟨[[none], [none]], [], [], [], []⟩
  bm := false
  pat := fun a b => match a, b with
    | [(AV.v (.int .i64 a0)), (AV.v (.int .i64 a1))], [] => some (a0, a1)
    | _, _ => none
  args := fun x => [(AV.v (.int .i64 x.1)), (AV.v (.int .i64 x.2))]
  bs := fun x => []
  ret := fun y => ⟨(AV.tup [(AV.v (.int .i64 y.1)), (AV.v (.int .i64 y.2))]), [], none, [], [], []⟩
  t := fun x α k => (match F42_d N (x.2, 1, 56) with | some y1 => (match (!y1) with | true => (k (0, 2)) | false => (match (decide (x.1 < 0)) with | true => (k (0, 2)) | false => (if (IntKind.u64.wrap x.2) < 0 then none else (match (decide (x.1 ≥ (shL .i64 (1 : Int) (IntKind.u64.wrap x.2)))) with | true => (k (0, 2)) | false => (if (IntKind.u64.wrap (i64 (x.2 - 1))) < 0 then none else (match (decide (x.1 ≥ (shL .i64 (1 : Int) (IntKind.u64.wrap (i64 (x.2 - 1)))))) with | true => (if (IntKind.u64.wrap x.2) < 0 then none else (k ((i64 (x.1 - (shL .i64 (1 : Int) (IntKind.u64.wrap x.2)))), 0))) | false => (k (x.1, 0)))))))) | none => none)
noncomputable abbrev F49_d (N : Nat) (x : Int × Int) : Option (Int × Int) := (F49_s N).d x
theorem F49_parF (N : Nat) : ParF (F49_s N).t := by
  intro x α β k k' r r' h h1
  revert h
  dsimp only [F49_s]
  (repeat' (first | (with_reducible refine par_ite ?_ ?_) | (with_reducible refine par_both ?_ ?_) | split)) <;> intro h <;> first | exact h1 _ h | (cases h; done)
theorem F49_text (N : Nat) (x : (F49_s N).X) : acall (tabOf Try.prog) (F49_g N) F49_an (lam N []) Try.f49 (F49_s N).S ((F49_s N).args x) ((F49_s N).bs x) = (F49_s N).t x Ret (fun y => some ((F49_s N).ret y)) := by kernel_rfl
theorem F49_pat (N : Nat) (a : List AV) (b : List (List AV)) (x : (F49_s N).X) (h : (F49_s N).pat a b = some x) : a = (F49_s N).args x ∧ b = (F49_s N).bs x := by
  dsimp only [F49_s] at h
  split at h
  · cases h; exact ⟨rfl, rfl⟩
  · cases h
noncomputable def F49_e (N : Nat) : Ent Try.prog := entOf (tabOf_ok Try.prog) (gam_ok _) mixed 49 Try.f49 Try.func49 rfl F49_an (lam N []) (by
    have e : actOf F49_an (Try.f49.body.getD .skip) 0 = [] := by kernel_rfl
    rw [e]
    intro p hp
    cases hp) (F49_s N) (fun _ => ⟨rfl, rfl⟩) (F49_text N) (F49_pat N) (F49_parF N)
/-! ### seismonet/seismonetref05.differences (function 48) -/
def F48_an : Nat → Keep × Keep := anL [(5, ⟨[0, 5], [(4, 1)], [], [], [], [], [], [], false⟩, ⟨[3], [(4, 1)], [], [(2, 1)], [], [], [], [], false⟩), (19, ⟨[0, 5, 6, 9], [(4, 1)], [], [(7, 1)], [], [], [], [], false⟩, ⟨[0, 5], [(4, 1)], [], [], [], [], [], [], false⟩), (33, ⟨[0, 5, 6, 9, 10, 12, 13, 14], [(4, 1)], [], [(7, 1)], [], [], [], [], false⟩, ⟨[0, 5, 6, 9], [(4, 1)], [], [(7, 1)], [], [], [], [], false⟩)]
noncomputable def F48_g (N : Nat) : GamK := gam (P := Try.prog) [F29_e N, F19_e N, F49_e N]
noncomputable def F48_l33 (N : Nat) : LSpec where
  X := (List (List AV)) × (List (List AV)) × ByteArray × Int × ByteArray × Int × Int × Int × Int × Int
  Y := ((List (List AV)) × (List (List AV)) × ByteArray × Int × ByteArray × Int)
  p := fun s => match s.env.length, s.nin, s.at 4, s.at 7, s.at 0, s.at 5, s.at 6, s.at 9, s.at 10, s.at 12, s.at 13, s.at 14 with
    | 117, 0, (AV.list 1 a0 (some 1280000256)), (AV.list 1 a1 none), (AV.v (.string a2)), (AV.v (.int .i64 a3)), (AV.v (.string a4)), (AV.v (.int .i64 a5)), (AV.v (.int .i64 a6)), (AV.v (.int .i64 a7)), (AV.v (.int .i64 a8)), (AV.v (.int .i64 a9)) => some (a0, a1, a2, a3, a4, a5, a6, a7, a8, a9)
    | _, _, _, _, _, _, _, _, _, _, _, _ => none
  st := fun x => mkS 117 [(4, (AV.list 1 x.1 (some 1280000256))), (7, (AV.list 1 x.2.1 none)), (0, (AV.v (.string x.2.2.1))), (5, (AV.v (.int .i64 x.2.2.2.1))), (6, (AV.v (.string x.2.2.2.2.1))), (9, (AV.v (.int .i64 x.2.2.2.2.2.1))), (10, (AV.v (.int .i64 x.2.2.2.2.2.2.1))), (12, (AV.v (.int .i64 x.2.2.2.2.2.2.2.1))), (13, (AV.v (.int .i64 x.2.2.2.2.2.2.2.2.1))), (14, (AV.v (.int .i64 x.2.2.2.2.2.2.2.2.2)))] [] (F48_an 33).1.toks 0
  out := fun y => (.exit 4, mkS 117 [(4, (AV.list 1 y.1 (some 1280000256))), (7, (AV.list 1 y.2.1 none)), (0, (AV.v (.string y.2.2.1))), (5, (AV.v (.int .i64 y.2.2.2.1))), (6, (AV.v (.string y.2.2.2.2.1))), (9, (AV.v (.int .i64 y.2.2.2.2.2)))] [] (F48_an 33).2.toks 0)
  sp := fun y α k => k (.exit 4, mkS 117 [(4, (AV.list 1 y.1 (some 1280000256))), (7, (AV.list 1 y.2.1 none)), (0, (AV.v (.string y.2.2.1))), (5, (AV.v (.int .i64 y.2.2.2.1))), (6, (AV.v (.string y.2.2.2.2.1))), (9, (AV.v (.int .i64 y.2.2.2.2.2)))] [] (F48_an 33).2.toks 0)
  spe := fun y α k => rfl
  b := fun x α kn ke => (match (decide (x.2.2.2.2.2.2.2.2.2 < x.2.2.2.2.2.2.2.1)) with | true => (if (IntKind.u64.wrap (i64 (32 - (i64 (x.2.2.2.2.2.2.2.2.1 * (i64 (x.2.2.2.2.2.2.2.2.2 + 1))))))) < 0 then none else (if (IntKind.u64.wrap x.2.2.2.2.2.2.2.2.1) < 0 then none else (match F49_d N ((bAnd .i64 (shR .i64 x.2.2.2.2.2.2.1 (IntKind.u64.wrap (i64 (32 - (i64 (x.2.2.2.2.2.2.2.2.1 * (i64 (x.2.2.2.2.2.2.2.2.2 + 1)))))))) (i64 ((shL .i64 (1 : Int) (IntKind.u64.wrap x.2.2.2.2.2.2.2.2.1)) - 1))), x.2.2.2.2.2.2.2.2.1) with | some y27 => (if (x.1.length + [[(AV.v (.int .i64 y27.1))]].length) * 8 ≤ maxBytes then (kn ((x.1 ++ [[(AV.v (.int .i64 y27.1))]]), x.2.1, x.2.2.1, x.2.2.2.1, x.2.2.2.2.1, x.2.2.2.2.2.1, x.2.2.2.2.2.2.1, x.2.2.2.2.2.2.2.1, x.2.2.2.2.2.2.2.2.1, (i64 (x.2.2.2.2.2.2.2.2.2 + 1)))) else none) | none => none))) | false => (ke (x.1, x.2.1, x.2.2.1, x.2.2.2.1, x.2.2.2.2.1, x.2.2.2.2.2.1)))
noncomputable abbrev F48_d33 (N : Nat) (x : (List (List AV)) × (List (List AV)) × ByteArray × Int × ByteArray × Int × Int × Int × Int × Int) : Option (((List (List AV)) × (List (List AV)) × ByteArray × Int × ByteArray × Int)) := (F48_l33 N).L N x
noncomputable def F48_l19 (N : Nat) : LSpec where
  X := (List (List AV)) × (List (List AV)) × ByteArray × Int × ByteArray × Int
  Y := ((List (List AV)) × ByteArray × Int)
  p := fun s => match s.env.length, s.nin, s.at 4, s.at 7, s.at 0, s.at 5, s.at 6, s.at 9 with
    | 117, 0, (AV.list 1 a0 (some 1280000256)), (AV.list 1 a1 none), (AV.v (.string a2)), (AV.v (.int .i64 a3)), (AV.v (.string a4)), (AV.v (.int .i64 a5)) => some (a0, a1, a2, a3, a4, a5)
    | _, _, _, _, _, _, _, _ => none
  st := fun x => mkS 117 [(4, (AV.list 1 x.1 (some 1280000256))), (7, (AV.list 1 x.2.1 none)), (0, (AV.v (.string x.2.2.1))), (5, (AV.v (.int .i64 x.2.2.2.1))), (6, (AV.v (.string x.2.2.2.2.1))), (9, (AV.v (.int .i64 x.2.2.2.2.2)))] [] (F48_an 19).1.toks 0
  out := fun y => (.exit 2, mkS 117 [(4, (AV.list 1 y.1 (some 1280000256))), (0, (AV.v (.string y.2.1))), (5, (AV.v (.int .i64 y.2.2)))] [] (F48_an 19).2.toks 0)
  sp := fun y α k => k (.exit 2, mkS 117 [(4, (AV.list 1 y.1 (some 1280000256))), (0, (AV.v (.string y.2.1))), (5, (AV.v (.int .i64 y.2.2)))] [] (F48_an 19).2.toks 0)
  spe := fun y α k => rfl
  b := fun x α kn ke => (match (decide (x.2.2.2.2.2 < 16)) with | true => (match (x.2.2.2.1 == 0) with | true => (match (decide (x.2.2.2.2.2 < 3)) with | true => (kn (x.1, x.2.1, x.2.2.1, x.2.2.2.1, x.2.2.2.2.1, (i64 (x.2.2.2.2.2 + 1)))) | false => (if 0 ≤ x.2.2.2.2.2 then (match x.2.1[x.2.2.2.2.2.toNat]? with | some c14 => (match c14[0]? with | some x15 => (match x15 with | .v (.int q17 n16) => (if q17 = .i64 then (match (n16 == 0) with | true => (kn (x.1, x.2.1, x.2.2.1, x.2.2.2.1, x.2.2.2.2.1, (i64 (x.2.2.2.2.2 + 1)))) | false => (match F19_d N (x.2.2.2.2.1, (i64 (4 * x.2.2.2.2.2)), 4) with | some y18 => (if 0 ≤ x.2.2.2.2.2 then (match x.2.1[x.2.2.2.2.2.toNat]? with | some c19 => (match c19[0]? with | some x20 => (match x20 with | .v (.int q22 n21) => (if q22 = .i64 then (if 0 ≤ n21 then (match [[(AV.v (.int .i64 0))], [(AV.v (.int .i64 4))], [(AV.v (.int .i64 2))], [(AV.v (.int .i64 1))]][n21.toNat]? with | some c23 => (match c23[0]? with | some x24 => (match x24 with | .v (.int q26 n25) => (if q26 = .i64 then (if n25 = 0 then none else (match F48_d33 N (x.1, x.2.1, x.2.2.1, x.2.2.2.1, x.2.2.2.2.1, x.2.2.2.2.2, y18.1, n25, (i64 ((32 : Int).tdiv n25)), 0) with | some y28 => (kn (y28.1, y28.2.1, y28.2.2.1, y28.2.2.2.1, y28.2.2.2.2.1, (i64 (y28.2.2.2.2.2 + 1)))) | none => none)) else none) | _ => none) | none => none) | none => none) else none) else none) | _ => none) | none => none) | none => none) else none) | none => none)) else none) | _ => none) | none => none) | none => none) else none)) | false => (if 0 ≤ x.2.2.2.2.2 then (match x.2.1[x.2.2.2.2.2.toNat]? with | some c29 => (match c29[0]? with | some x30 => (match x30 with | .v (.int q32 n31) => (if q32 = .i64 then (match (n31 == 0) with | true => (kn (x.1, x.2.1, x.2.2.1, x.2.2.2.1, x.2.2.2.2.1, (i64 (x.2.2.2.2.2 + 1)))) | false => (match F19_d N (x.2.2.2.2.1, (i64 (4 * x.2.2.2.2.2)), 4) with | some y33 => (if 0 ≤ x.2.2.2.2.2 then (match x.2.1[x.2.2.2.2.2.toNat]? with | some c34 => (match c34[0]? with | some x35 => (match x35 with | .v (.int q37 n36) => (if q37 = .i64 then (if 0 ≤ n36 then (match [[(AV.v (.int .i64 0))], [(AV.v (.int .i64 4))], [(AV.v (.int .i64 2))], [(AV.v (.int .i64 1))]][n36.toNat]? with | some c38 => (match c38[0]? with | some x39 => (match x39 with | .v (.int q41 n40) => (if q41 = .i64 then (if n40 = 0 then none else (match F48_d33 N (x.1, x.2.1, x.2.2.1, x.2.2.2.1, x.2.2.2.2.1, x.2.2.2.2.2, y33.1, n40, (i64 ((32 : Int).tdiv n40)), 0) with | some y42 => (kn (y42.1, y42.2.1, y42.2.2.1, y42.2.2.2.1, y42.2.2.2.2.1, (i64 (y42.2.2.2.2.2 + 1)))) | none => none)) else none) | _ => none) | none => none) | none => none) else none) else none) | _ => none) | none => none) | none => none) else none) | none => none)) else none) | _ => none) | none => none) | none => none) else none)) | false => (ke (x.1, x.2.2.1, x.2.2.2.1)))
noncomputable abbrev F48_d19 (N : Nat) (x : (List (List AV)) × (List (List AV)) × ByteArray × Int × ByteArray × Int) : Option (((List (List AV)) × ByteArray × Int)) := (F48_l19 N).L N x
noncomputable def F48_l5 (N : Nat) : LSpec where
  X := (List (List AV)) × ByteArray × Int
  Y := ((List (List AV)) × (List (List AV)) × Bool) ⊕ ((List (List AV)))
  p := fun s => match s.env.length, s.nin, s.at 4, s.at 0, s.at 5 with
    | 117, 0, (AV.list 1 a0 (some 1280000256)), (AV.v (.string a1)), (AV.v (.int .i64 a2)) => some (a0, a1, a2)
    | _, _, _, _, _ => none
  st := fun x => mkS 117 [(4, (AV.list 1 x.1 (some 1280000256))), (0, (AV.v (.string x.2.1))), (5, (AV.v (.int .i64 x.2.2)))] [] (F48_an 5).1.toks 0
  out := fun y => match y with
    | .inl y => (.ret, mkS 117 [(4, (AV.list 1 y.1 (some 1280000256))), (2, (AV.list 1 y.2.1 none)), (3, (AV.v (.bool y.2.2)))] [] (F48_an 5).2.toks 0)
    | .inr y => (.exit 0, mkS 117 [(4, (AV.list 1 y (some 1280000256)))] [] (F48_an 5).2.toks 0)
  sp := fun y α k => match y with
    | .inl y => k (.ret, mkS 117 [(4, (AV.list 1 y.1 (some 1280000256))), (2, (AV.list 1 y.2.1 none)), (3, (AV.v (.bool y.2.2)))] [] (F48_an 5).2.toks 0)
    | .inr y => k (.exit 0, mkS 117 [(4, (AV.list 1 y (some 1280000256)))] [] (F48_an 5).2.toks 0)
  spe := fun y α k => by rcases y with _ | _ <;> rfl
  b := fun x α kn ke => (match (decide (x.2.2 < (i64 ((x.2.1.size : Int).tdiv 64)))) with | true => (if 0 ≤ (i64 (64 * x.2.2)) ∧ (i64 (64 * x.2.2)) ≤ (i64 ((i64 (64 * x.2.2)) + 64)) ∧ (i64 ((i64 (64 * x.2.2)) + 64)) ≤ x.2.1.size then (match F29_d N (x.2.1.extract (i64 (64 * x.2.2)).toNat (i64 ((i64 (64 * x.2.2)) + 64)).toNat) with | some y1 => (if 0 ≤ (0 : Int) then (match y1.1[(0 : Int).toNat]? with | some c2 => (match c2[0]? with | some x3 => (match x3 with | .v (.int q5 n4) => (if q5 = .i64 then (match (n4 != 0) with | true => (ke (.inl (x.1, ([] : List (List AV)), false))) | false => (match (x.2.2 == 0) with | true => (if 0 ≤ (1 : Int) then (match y1.1[(1 : Int).toNat]? with | some c6 => (match c6[0]? with | some x7 => (match x7 with | .v (.int q9 n8) => (if q9 = .i64 then (match (n8 != 0) with | true => (ke (.inl (x.1, ([] : List (List AV)), false))) | false => (if 0 ≤ (2 : Int) then (match y1.1[(2 : Int).toNat]? with | some c10 => (match c10[0]? with | some x11 => (match x11 with | .v (.int q13 n12) => (if q13 = .i64 then (match (n12 != 0) with | true => (ke (.inl (x.1, ([] : List (List AV)), false))) | false => (match F48_d19 N (x.1, y1.1, x.2.1, x.2.2, (x.2.1.extract (i64 (64 * x.2.2)).toNat (i64 ((i64 (64 * x.2.2)) + 64)).toNat), 1) with | some y43 => (kn (y43.1, y43.2.1, (i64 (y43.2.2 + 1)))) | none => none)) else none) | _ => none) | none => none) | none => none) else none)) else none) | _ => none) | none => none) | none => none) else none) | false => (match F48_d19 N (x.1, y1.1, x.2.1, x.2.2, (x.2.1.extract (i64 (64 * x.2.2)).toNat (i64 ((i64 (64 * x.2.2)) + 64)).toNat), 1) with | some y44 => (kn (y44.1, y44.2.1, (i64 (y44.2.2 + 1)))) | none => none))) else none) | _ => none) | none => none) | none => none) else none) | none => none) else none) | false => (ke (.inr x.1)))
noncomputable abbrev F48_d5 (N : Nat) (x : (List (List AV)) × ByteArray × Int) : Option (((List (List AV)) × (List (List AV)) × Bool) ⊕ ((List (List AV)))) := (F48_l5 N).L N x
noncomputable def F48_s (N : Nat) : FSpec where
  X := ByteArray
  Y := (List (List AV)) × Bool
  ash := [[none]]
  bsh := []
  S := ⟨[[some 1], [none]], [], [], [], []⟩
  bm := false
  pat := fun a b => match a, b with
    | [(AV.v (.string a0))], [] => some a0
    | _, _ => none
  args := fun x => [(AV.v (.string x))]
  bs := fun x => []
  ret := fun y => ⟨(AV.tup [(AV.list 1 y.1 none), (AV.v (.bool y.2))]), [], none, [], [], []⟩
  t := fun x α k => (match F48_d5 N (([] : List (List AV)), x, 0) with | some y45 => (match y45 with | .inl z46 => (k (z46.2.1, z46.2.2)) | .inr z47 => (k (z47, true))) | none => none)
noncomputable abbrev F48_d (N : Nat) (x : ByteArray) : Option ((List (List AV)) × Bool) := (F48_s N).d x
theorem F48_par33 (N : Nat) : Par (F48_l33 N).b := by
  intro x α β kn ke kn' ke' r r' h h1 h2
  revert h
  dsimp only [F48_l33]
  (repeat' (first | (with_reducible refine par_ite ?_ ?_) | (with_reducible refine par_both ?_ ?_) | split)) <;> intro h <;> first | exact h1 _ h | exact h2 _ h | (cases h; done)
theorem F48_body33 (N : Nat) (x : (F48_l33 N).X) (α : Type) (kn : AS → Option α) (ke : Out → Option α) : around (tabOf Try.prog) (F48_g N) F48_an (lam N [(5, F48_l5 N), (19, F48_l19 N), (33, F48_l33 N)]) 33 (bodyOf (nthLoop 33 (Try.f48.body.getD .skip))) ((F48_l33 N).st x) kn ke = (F48_l33 N).b x α (fun x' => kn ((F48_l33 N).st x')) (fun y => (F48_l33 N).sp y α ke) := by kernel_rfl
theorem F48_pat33 (N : Nat) (s : AS) (x : (F48_l33 N).X) (hc : s = canon (F48_an 33).1 s) (h : (F48_l33 N).p s = some x) : s = (F48_l33 N).st x := by
  dsimp only [F48_l33] at h
  split at h
  · cases h
    exact canon_mk hc ‹_› ‹_› rfl rfl rfl ⟨‹_›, ‹_›, ‹_›, ‹_›, ‹_›, ‹_›, ‹_›, ‹_›, ‹_›, ‹_›, trivial⟩ trivial
  · cases h
theorem F48_loop33 (N : Nat) : ∀ s o, s = canon (F48_an 33).1 s → (lam N [(5, F48_l5 N), (19, F48_l19 N), (33, F48_l33 N)]).v 33 s = some o → LoopSem Try.prog (nthLoop 33 (Try.f48.body.getD .skip)) s o :=
  loop_ok (tabOf_ok Try.prog) (gam_ok _) mixed F48_an N [(5, F48_l5 N), (19, F48_l19 N), (33, F48_l33 N)] 33 (bodyOf (nthLoop 33 (Try.f48.body.getD .skip))) (nthLoop 33 (Try.f48.body.getD .skip)) (by kernel_rfl) (by
    have e : actOf F48_an (bodyOf (nthLoop 33 (Try.f48.body.getD .skip))) (33 + 1) = [] := by kernel_rfl
    rw [e]
    intro p hp
    cases hp) (F48_l33 N) rfl (fun s x hc h => F48_pat33 N s x hc h) (fun x => rfl) (fun x α kn ke => (F48_body33 N x α kn ke).trans (congrArg ((F48_l33 N).b x α _) (funext fun y => (F48_l33 N).spe y α ke))) (F48_par33 N)
theorem F48_par19 (N : Nat) : Par (F48_l19 N).b := by
  intro x α β kn ke kn' ke' r r' h h1 h2
  revert h
  dsimp only [F48_l19]
  (repeat' (first | (with_reducible refine par_ite ?_ ?_) | (with_reducible refine par_both ?_ ?_) | split)) <;> intro h <;> first | exact h1 _ h | exact h2 _ h | (cases h; done)
theorem F48_body19 (N : Nat) (x : (F48_l19 N).X) (α : Type) (kn : AS → Option α) (ke : Out → Option α) : around (tabOf Try.prog) (F48_g N) F48_an (lam N [(5, F48_l5 N), (19, F48_l19 N), (33, F48_l33 N)]) 19 (bodyOf (nthLoop 19 (Try.f48.body.getD .skip))) ((F48_l19 N).st x) kn ke = (F48_l19 N).b x α (fun x' => kn ((F48_l19 N).st x')) (fun y => (F48_l19 N).sp y α ke) := by kernel_rfl
theorem F48_pat19 (N : Nat) (s : AS) (x : (F48_l19 N).X) (hc : s = canon (F48_an 19).1 s) (h : (F48_l19 N).p s = some x) : s = (F48_l19 N).st x := by
  dsimp only [F48_l19] at h
  split at h
  · cases h
    exact canon_mk hc ‹_› ‹_› rfl rfl rfl ⟨‹_›, ‹_›, ‹_›, ‹_›, ‹_›, ‹_›, trivial⟩ trivial
  · cases h
theorem F48_loop19 (N : Nat) : ∀ s o, s = canon (F48_an 19).1 s → (lam N [(5, F48_l5 N), (19, F48_l19 N), (33, F48_l33 N)]).v 19 s = some o → LoopSem Try.prog (nthLoop 19 (Try.f48.body.getD .skip)) s o :=
  loop_ok (tabOf_ok Try.prog) (gam_ok _) mixed F48_an N [(5, F48_l5 N), (19, F48_l19 N), (33, F48_l33 N)] 19 (bodyOf (nthLoop 19 (Try.f48.body.getD .skip))) (nthLoop 19 (Try.f48.body.getD .skip)) (by kernel_rfl) (by
    have e : actOf F48_an (bodyOf (nthLoop 19 (Try.f48.body.getD .skip))) (19 + 1) = [(33, nthLoop 33 (Try.f48.body.getD .skip))] := by kernel_rfl
    rw [e]
    intro p hp
    rcases List.mem_cons.1 hp with rfl | hp
    · exact F48_loop33 N
    cases hp) (F48_l19 N) rfl (fun s x hc h => F48_pat19 N s x hc h) (fun x => rfl) (fun x α kn ke => (F48_body19 N x α kn ke).trans (congrArg ((F48_l19 N).b x α _) (funext fun y => (F48_l19 N).spe y α ke))) (F48_par19 N)
theorem F48_par5 (N : Nat) : Par (F48_l5 N).b := by
  intro x α β kn ke kn' ke' r r' h h1 h2
  revert h
  dsimp only [F48_l5]
  (repeat' (first | (with_reducible refine par_ite ?_ ?_) | (with_reducible refine par_both ?_ ?_) | split)) <;> intro h <;> first | exact h1 _ h | exact h2 _ h | (cases h; done)
theorem F48_body5 (N : Nat) (x : (F48_l5 N).X) (α : Type) (kn : AS → Option α) (ke : Out → Option α) : around (tabOf Try.prog) (F48_g N) F48_an (lam N [(5, F48_l5 N), (19, F48_l19 N), (33, F48_l33 N)]) 5 (bodyOf (nthLoop 5 (Try.f48.body.getD .skip))) ((F48_l5 N).st x) kn ke = (F48_l5 N).b x α (fun x' => kn ((F48_l5 N).st x')) (fun y => (F48_l5 N).sp y α ke) := by kernel_rfl
theorem F48_pat5 (N : Nat) (s : AS) (x : (F48_l5 N).X) (hc : s = canon (F48_an 5).1 s) (h : (F48_l5 N).p s = some x) : s = (F48_l5 N).st x := by
  dsimp only [F48_l5] at h
  split at h
  · cases h
    exact canon_mk hc ‹_› ‹_› rfl rfl rfl ⟨‹_›, ‹_›, ‹_›, trivial⟩ trivial
  · cases h
theorem F48_loop5 (N : Nat) : ∀ s o, s = canon (F48_an 5).1 s → (lam N [(5, F48_l5 N), (19, F48_l19 N), (33, F48_l33 N)]).v 5 s = some o → LoopSem Try.prog (nthLoop 5 (Try.f48.body.getD .skip)) s o :=
  loop_ok (tabOf_ok Try.prog) (gam_ok _) mixed F48_an N [(5, F48_l5 N), (19, F48_l19 N), (33, F48_l33 N)] 5 (bodyOf (nthLoop 5 (Try.f48.body.getD .skip))) (nthLoop 5 (Try.f48.body.getD .skip)) (by kernel_rfl) (by
    have e : actOf F48_an (bodyOf (nthLoop 5 (Try.f48.body.getD .skip))) (5 + 1) = [(19, nthLoop 19 (Try.f48.body.getD .skip)), (33, nthLoop 33 (Try.f48.body.getD .skip))] := by kernel_rfl
    rw [e]
    intro p hp
    rcases List.mem_cons.1 hp with rfl | hp
    · exact F48_loop19 N
    rcases List.mem_cons.1 hp with rfl | hp
    · exact F48_loop33 N
    cases hp) (F48_l5 N) rfl (fun s x hc h => F48_pat5 N s x hc h) (fun x => rfl) (fun x α kn ke => (F48_body5 N x α kn ke).trans (congrArg ((F48_l5 N).b x α _) (funext fun y => (F48_l5 N).spe y α ke))) (F48_par5 N)
theorem F48_parF (N : Nat) : ParF (F48_s N).t := by
  intro x α β k k' r r' h h1
  revert h
  dsimp only [F48_s]
  (repeat' (first | (with_reducible refine par_ite ?_ ?_) | (with_reducible refine par_both ?_ ?_) | split)) <;> intro h <;> first | exact h1 _ h | (cases h; done)
theorem F48_text (N : Nat) (x : (F48_s N).X) : acall (tabOf Try.prog) (F48_g N) F48_an (lam N [(5, F48_l5 N), (19, F48_l19 N), (33, F48_l33 N)]) Try.f48 (F48_s N).S ((F48_s N).args x) ((F48_s N).bs x) = (F48_s N).t x Ret (fun y => some ((F48_s N).ret y)) := by kernel_rfl
theorem F48_pat (N : Nat) (a : List AV) (b : List (List AV)) (x : (F48_s N).X) (h : (F48_s N).pat a b = some x) : a = (F48_s N).args x ∧ b = (F48_s N).bs x := by
  dsimp only [F48_s] at h
  split at h
  · cases h; exact ⟨rfl, rfl⟩
  · cases h
noncomputable def F48_e (N : Nat) : Ent Try.prog := entOf (tabOf_ok Try.prog) (gam_ok _) mixed 48 Try.f48 Try.func48 rfl F48_an (lam N [(5, F48_l5 N), (19, F48_l19 N), (33, F48_l33 N)]) (by
    have e : actOf F48_an (Try.f48.body.getD .skip) 0 = [(5, nthLoop 5 (Try.f48.body.getD .skip)), (19, nthLoop 19 (Try.f48.body.getD .skip)), (33, nthLoop 33 (Try.f48.body.getD .skip))] := by kernel_rfl
    rw [e]
    intro p hp
    rcases List.mem_cons.1 hp with rfl | hp
    · exact F48_loop5 N
    rcases List.mem_cons.1 hp with rfl | hp
    · exact F48_loop19 N
    rcases List.mem_cons.1 hp with rfl | hp
    · exact F48_loop33 N
    cases hp) (F48_s N) (fun _ => ⟨rfl, rfl⟩) (F48_text N) (F48_pat N) (F48_parF N)
/-! ### seismonet/seismonetref05.Decode (function 25) -/
def F25_an : Nat → Keep × Keep := anL [(26, ⟨[1, 12, 14, 17], [(16, 1)], [], [(6, 1)], [], [], [], [], false⟩, ⟨[5, 12, 14], [(16, 1)], [], [(4, 1)], [], [], [], [], false⟩)]
noncomputable def F25_g (N : Nat) : GamK := gam (P := Try.prog) [F42_e N, F48_e N, F19_e N, F49_e N, F50_e N]
noncomputable def F25_l26 (N : Nat) : LSpec where
  X := (List (List AV)) × (List (List AV)) × Int × Int × Int × Int
  Y := ((List (List AV)) × (List (List AV)) × Int × Int × Int) ⊕ ((List (List AV)) × Int × Int)
  p := fun s => match s.env.length, s.nin, s.at 16, s.at 6, s.at 1, s.at 12, s.at 14, s.at 17 with
    | 87, 0, (AV.list 1 a0 (some 1280001024)), (AV.list 1 a1 none), (AV.v (.int .i64 a2)), (AV.v (.int .i64 a3)), (AV.v (.int .i64 a4)), (AV.v (.int .i64 a5)) => some (a0, a1, a2, a3, a4, a5)
    | _, _, _, _, _, _, _, _ => none
  st := fun x => mkS 87 [(16, (AV.list 1 x.1 (some 1280001024))), (6, (AV.list 1 x.2.1 none)), (1, (AV.v (.int .i64 x.2.2.1))), (12, (AV.v (.int .i64 x.2.2.2.1))), (14, (AV.v (.int .i64 x.2.2.2.2.1))), (17, (AV.v (.int .i64 x.2.2.2.2.2)))] [] (F25_an 26).1.toks 0
  out := fun y => match y with
    | .inl y => (.ret, mkS 87 [(16, (AV.list 1 y.1 (some 1280001024))), (4, (AV.list 1 y.2.1 none)), (5, (AV.v (.int .i64 y.2.2.1))), (12, (AV.v (.int .i64 y.2.2.2.1))), (14, (AV.v (.int .i64 y.2.2.2.2)))] [] (F25_an 26).2.toks 0)
    | .inr y => (.exit 0, mkS 87 [(16, (AV.list 1 y.1 (some 1280001024))), (12, (AV.v (.int .i64 y.2.1))), (14, (AV.v (.int .i64 y.2.2)))] [] (F25_an 26).2.toks 0)
  sp := fun y α k => match y with
    | .inl y => k (.ret, mkS 87 [(16, (AV.list 1 y.1 (some 1280001024))), (4, (AV.list 1 y.2.1 none)), (5, (AV.v (.int .i64 y.2.2.1))), (12, (AV.v (.int .i64 y.2.2.2.1))), (14, (AV.v (.int .i64 y.2.2.2.2)))] [] (F25_an 26).2.toks 0)
    | .inr y => k (.exit 0, mkS 87 [(16, (AV.list 1 y.1 (some 1280001024))), (12, (AV.v (.int .i64 y.2.1))), (14, (AV.v (.int .i64 y.2.2)))] [] (F25_an 26).2.toks 0)
  spe := fun y α k => by rcases y with _ | _ <;> rfl
  b := fun x α kn ke => (match (decide (x.2.2.2.2.2 < x.2.2.1)) with | true => (match (decide (x.2.2.2.2.2 > 0)) with | true => (if 0 ≤ x.2.2.2.2.2 then (match x.2.1[x.2.2.2.2.2.toNat]? with | some c8 => (match c8[0]? with | some x9 => (match x9 with | .v (.int q11 n10) => (if q11 = .i64 then (match F50_d N (i64 (x.2.2.2.1 + n10)) with | some y12 => (match (!y12) with | true => (ke (.inl (x.1, ([] : List (List AV)), 2, (i64 (x.2.2.2.1 + n10)), x.2.2.2.2.1))) | false => (if (x.1.length + [[(AV.v (.int .i64 (i64 (x.2.2.2.1 + n10))))]].length) * 8 ≤ maxBytes then (kn ((x.1 ++ [[(AV.v (.int .i64 (i64 (x.2.2.2.1 + n10))))]]), x.2.1, x.2.2.1, (i64 (x.2.2.2.1 + n10)), x.2.2.2.2.1, (i64 (x.2.2.2.2.2 + 1)))) else none)) | none => none) else none) | _ => none) | none => none) | none => none) else none) | false => (match F50_d N x.2.2.2.1 with | some y13 => (match (!y13) with | true => (ke (.inl (x.1, ([] : List (List AV)), 2, x.2.2.2.1, x.2.2.2.2.1))) | false => (if (x.1.length + [[(AV.v (.int .i64 x.2.2.2.1))]].length) * 8 ≤ maxBytes then (kn ((x.1 ++ [[(AV.v (.int .i64 x.2.2.2.1))]]), x.2.1, x.2.2.1, x.2.2.2.1, x.2.2.2.2.1, (i64 (x.2.2.2.2.2 + 1)))) else none)) | none => none)) | false => (ke (.inr (x.1, x.2.2.2.1, x.2.2.2.2.1))))
noncomputable abbrev F25_d26 (N : Nat) (x : (List (List AV)) × (List (List AV)) × Int × Int × Int × Int) : Option (((List (List AV)) × (List (List AV)) × Int × Int × Int) ⊕ ((List (List AV)) × Int × Int)) := (F25_l26 N).L N x
noncomputable def F25_s (N : Nat) : FSpec where
  X := ByteArray × Int
  Y := (List (List AV)) × Int
  ash := [[none], [none]]
  bsh := []
  S := ⟨[[some 1], [none]], [], [], [], []⟩
  bm := false
  pat := fun a b => match a, b with
    | [(AV.v (.string a0)), (AV.v (.int .i64 a1))], [] => some (a0, a1)
    | _, _ => none
  args := fun x => [(AV.v (.string x.1)), (AV.v (.int .i64 x.2))]
  bs := fun x => []
  ret := fun y => ⟨(AV.tup [(AV.list 1 y.1 none), (AV.v (.int .i64 y.2))]), [], none, [], [], []⟩
  t := fun x α k => (match F42_d N (x.2, 1, 420) with | some y1 => (match (!y1) with | true => (k (([] : List (List AV)), 2)) | false => (match (((x.1.size : Int).tmod 64) != 0) with | true => (k (([] : List (List AV)), 3)) | false => (match F42_d N ((i64 ((x.1.size : Int).tdiv 64)), 1, 8) with | some y2 => (match (!y2) with | true => (k (([] : List (List AV)), 3)) | false => (match F48_d N x.1 with | some y3 => (match (!y3.2) with | true => (k (([] : List (List AV)), 3)) | false => (match (decide ((y3.1.length : Int) < x.2)) with | true => (k (([] : List (List AV)), 4)) | false => (match F19_d N (x.1, 4, 4) with | some y4 => (match F19_d N (x.1, 8, 4) with | some y5 => (match F49_d N (y4.1, 32) with | some y6 => (match F49_d N (y5.1, 32) with | some y7 => (match F25_d26 N (([] : List (List AV)), y3.1, x.2, y6.1, y7.1, 0) with | some y14 => (match y14 with | .inl z15 => (k (z15.2.1, z15.2.2.1)) | .inr z16 => (match (z16.2.1 != z16.2.2) with | true => (k (([] : List (List AV)), 11)) | false => (k (z16.1, 0)))) | none => none) | none => none) | none => none) | none => none) | none => none))) | none => none)) | none => none))) | none => none)
noncomputable abbrev F25_d (N : Nat) (x : ByteArray × Int) : Option ((List (List AV)) × Int) := (F25_s N).d x
theorem F25_par26 (N : Nat) : Par (F25_l26 N).b := by
  intro x α β kn ke kn' ke' r r' h h1 h2
  revert h
  dsimp only [F25_l26]
  (repeat' (first | (with_reducible refine par_ite ?_ ?_) | (with_reducible refine par_both ?_ ?_) | split)) <;> intro h <;> first | exact h1 _ h | exact h2 _ h | (cases h; done)
theorem F25_body26 (N : Nat) (x : (F25_l26 N).X) (α : Type) (kn : AS → Option α) (ke : Out → Option α) : around (tabOf Try.prog) (F25_g N) F25_an (lam N [(26, F25_l26 N)]) 26 (bodyOf (nthLoop 26 (Try.f25.body.getD .skip))) ((F25_l26 N).st x) kn ke = (F25_l26 N).b x α (fun x' => kn ((F25_l26 N).st x')) (fun y => (F25_l26 N).sp y α ke) := by kernel_rfl
theorem F25_pat26 (N : Nat) (s : AS) (x : (F25_l26 N).X) (hc : s = canon (F25_an 26).1 s) (h : (F25_l26 N).p s = some x) : s = (F25_l26 N).st x := by
  dsimp only [F25_l26] at h
  split at h
  · cases h
    exact canon_mk hc ‹_› ‹_› rfl rfl rfl ⟨‹_›, ‹_›, ‹_›, ‹_›, ‹_›, ‹_›, trivial⟩ trivial
  · cases h
theorem F25_loop26 (N : Nat) : ∀ s o, s = canon (F25_an 26).1 s → (lam N [(26, F25_l26 N)]).v 26 s = some o → LoopSem Try.prog (nthLoop 26 (Try.f25.body.getD .skip)) s o :=
  loop_ok (tabOf_ok Try.prog) (gam_ok _) mixed F25_an N [(26, F25_l26 N)] 26 (bodyOf (nthLoop 26 (Try.f25.body.getD .skip))) (nthLoop 26 (Try.f25.body.getD .skip)) (by kernel_rfl) (by
    have e : actOf F25_an (bodyOf (nthLoop 26 (Try.f25.body.getD .skip))) (26 + 1) = [] := by kernel_rfl
    rw [e]
    intro p hp
    cases hp) (F25_l26 N) rfl (fun s x hc h => F25_pat26 N s x hc h) (fun x => rfl) (fun x α kn ke => (F25_body26 N x α kn ke).trans (congrArg ((F25_l26 N).b x α _) (funext fun y => (F25_l26 N).spe y α ke))) (F25_par26 N)
theorem F25_parF (N : Nat) : ParF (F25_s N).t := by
  intro x α β k k' r r' h h1
  revert h
  dsimp only [F25_s]
  (repeat' (first | (with_reducible refine par_ite ?_ ?_) | (with_reducible refine par_both ?_ ?_) | split)) <;> intro h <;> first | exact h1 _ h | (cases h; done)
theorem F25_text (N : Nat) (x : (F25_s N).X) : acall (tabOf Try.prog) (F25_g N) F25_an (lam N [(26, F25_l26 N)]) Try.f25 (F25_s N).S ((F25_s N).args x) ((F25_s N).bs x) = (F25_s N).t x Ret (fun y => some ((F25_s N).ret y)) := by kernel_rfl
theorem F25_pat (N : Nat) (a : List AV) (b : List (List AV)) (x : (F25_s N).X) (h : (F25_s N).pat a b = some x) : a = (F25_s N).args x ∧ b = (F25_s N).bs x := by
  dsimp only [F25_s] at h
  split at h
  · cases h; exact ⟨rfl, rfl⟩
  · cases h
noncomputable def F25_e (N : Nat) : Ent Try.prog := entOf (tabOf_ok Try.prog) (gam_ok _) mixed 25 Try.f25 Try.func25 rfl F25_an (lam N [(26, F25_l26 N)]) (by
    have e : actOf F25_an (Try.f25.body.getD .skip) 0 = [(26, nthLoop 26 (Try.f25.body.getD .skip))] := by kernel_rfl
    rw [e]
    intro p hp
    rcases List.mem_cons.1 hp with rfl | hp
    · exact F25_loop26 N
    cases hp) (F25_s N) (fun _ => ⟨rfl, rfl⟩) (F25_text N) (F25_pat N) (F25_parF N)
/-! ### seismonet/seismonetref05.Canonical (function 27) -/
def F27_an : Nat → Keep × Keep := anL []
noncomputable def F27_g (N : Nat) : GamK := gam (P := Try.prog) [F25_e N, F21_e N]
noncomputable def F27_s (N : Nat) : FSpec where
  X := ByteArray × Int
  Y := Bool
  ash := [[none], [none]]
  bsh := []
  S := ⟨[[none]], [], [], [], []⟩
  bm := false
  pat := fun a b => match a, b with
    | [(AV.v (.string a0)), (AV.v (.int .i64 a1))], [] => some (a0, a1)
    | _, _ => none
  args := fun x => [(AV.v (.string x.1)), (AV.v (.int .i64 x.2))]
  bs := fun x => []
  ret := fun y => ⟨(AV.v (.bool y)), [], none, [], [], []⟩
  t := fun x α k => (match F25_d N (x.1, x.2) with | some y1 => (match (y1.2 != 0) with | true => (k false) | false => (match F21_d N y1.1 with | some y2 => (match (y2.2 == 0) with | true => (k (y2.1.toList == x.1.toList)) | false => (k false)) | none => none)) | none => none)
noncomputable abbrev F27_d (N : Nat) (x : ByteArray × Int) : Option (Bool) := (F27_s N).d x
theorem F27_parF (N : Nat) : ParF (F27_s N).t := by
  intro x α β k k' r r' h h1
  revert h
  dsimp only [F27_s]
  (repeat' (first | (with_reducible refine par_ite ?_ ?_) | (with_reducible refine par_both ?_ ?_) | split)) <;> intro h <;> first | exact h1 _ h | (cases h; done)
theorem F27_text (N : Nat) (x : (F27_s N).X) : acall (tabOf Try.prog) (F27_g N) F27_an (lam N []) Try.f27 (F27_s N).S ((F27_s N).args x) ((F27_s N).bs x) = (F27_s N).t x Ret (fun y => some ((F27_s N).ret y)) := by kernel_rfl
theorem F27_pat (N : Nat) (a : List AV) (b : List (List AV)) (x : (F27_s N).X) (h : (F27_s N).pat a b = some x) : a = (F27_s N).args x ∧ b = (F27_s N).bs x := by
  dsimp only [F27_s] at h
  split at h
  · cases h; exact ⟨rfl, rfl⟩
  · cases h
noncomputable def F27_e (N : Nat) : Ent Try.prog := entOf (tabOf_ok Try.prog) (gam_ok _) mixed 27 Try.f27 Try.func27 rfl F27_an (lam N []) (by
    have e : actOf F27_an (Try.f27.body.getD .skip) 0 = [] := by kernel_rfl
    rw [e]
    intro p hp
    cases hp) (F27_s N) (fun _ => ⟨rfl, rfl⟩) (F27_text N) (F27_pat N) (F27_parF N)
/-! ### seismonet/seismonetlaw05.SteimExact (function 6) -/
def F6_an : Nat → Keep × Keep := anL [(10, ⟨[2, 3, 9, 57, 58], [], [44], [(56, 1)], [], [], [], [], false⟩, ⟨[8], [], [], [], [], [], [], [], false⟩), (25, ⟨[2, 3, 9, 57, 58, 100, 101], [], [44], [(12, 1), (56, 1), (99, 1)], [], [], [], [], false⟩, ⟨[2, 3, 8, 9, 57, 58], [], [44], [(56, 1)], [], [], [], [], false⟩), (35, ⟨[2, 3, 9, 18, 57, 58, 100, 101, 111, 112], [], [44], [(12, 1), (56, 1), (99, 1), (110, 1)], [], [], [], [], false⟩, ⟨[2, 3, 8, 9, 18, 57, 58, 100, 101], [], [44], [(12, 1), (56, 1), (99, 1)], [], [], [], [], false⟩)]
noncomputable def F6_g (N : Nat) : GamK := gam (P := Try.prog) [F8_e N, F9_e N, F10_e N, F18_e N, F12_e N, F14_e N, F21_e N, F13_e N, F22_e N, F15_e N, F23_e N, F24_e N, F11_e N, F16_e N, F25_e N, F17_e N, F26_e N, F27_e N, F28_e N, F29_e N]
noncomputable def F6_l35 (N : Nat) : LSpec where
  X := (List (List AV)) × (List (List AV)) × (List (List AV)) × (List (List AV)) × ByteArray × Int × ByteArray × Int × Int × Int × Int × Int × Int × (List (List AV)) × Int
  Y := ((List (List AV)) × (List (List AV)) × (List (List AV)) × ByteArray × Int × Bool × ByteArray × Int × Int × Int × Int × (List (List AV)) × Int) ⊕ ((List (List AV)) × (List (List AV)) × (List (List AV)) × ByteArray × Int × ByteArray × Int × Int × Int × Int × (List (List AV)) × Int)
  p := fun s => match s.env.length, s.nin, s.at 12, s.at 56, s.at 99, s.at 110, s.at 2, s.at 3, s.at 9, s.at 18, s.at 57, s.at 58, s.at 100, s.at 101, s.at 111, s.at 112, s.bx 44 with
    | 169, 0, (AV.list 1 a0 none), (AV.list 1 a1 none), (AV.list 1 a2 none), (AV.list 1 a3 none), (AV.v (.string a4)), (AV.v (.int .i64 a5)), (AV.ptr 44 0), (AV.v (.string a6)), (AV.v (.int .i64 a7)), (AV.v (.int .i64 a8)), (AV.v (.int .i64 a9)), (AV.v (.int .i64 a10)), (AV.v (.int .i64 a11)), (AV.v (.int .i64 a12)), some [(AV.list 1 a13 none), (AV.v (.int .i64 a14))] => some (a0, a1, a2, a3, a4, a5, a6, a7, a8, a9, a10, a11, a12, a13, a14)
    | _, _, _, _, _, _, _, _, _, _, _, _, _, _, _, _, _ => none
  st := fun x => mkS 169 [(12, (AV.list 1 x.1 none)), (56, (AV.list 1 x.2.1 none)), (99, (AV.list 1 x.2.2.1 none)), (110, (AV.list 1 x.2.2.2.1 none)), (2, (AV.v (.string x.2.2.2.2.1))), (3, (AV.v (.int .i64 x.2.2.2.2.2.1))), (9, (AV.ptr 44 0)), (18, (AV.v (.string x.2.2.2.2.2.2.1))), (57, (AV.v (.int .i64 x.2.2.2.2.2.2.2.1))), (58, (AV.v (.int .i64 x.2.2.2.2.2.2.2.2.1))), (100, (AV.v (.int .i64 x.2.2.2.2.2.2.2.2.2.1))), (101, (AV.v (.int .i64 x.2.2.2.2.2.2.2.2.2.2.1))), (111, (AV.v (.int .i64 x.2.2.2.2.2.2.2.2.2.2.2.1))), (112, (AV.v (.int .i64 x.2.2.2.2.2.2.2.2.2.2.2.2.1)))] [(44, [(AV.list 1 x.2.2.2.2.2.2.2.2.2.2.2.2.2.1 none), (AV.v (.int .i64 x.2.2.2.2.2.2.2.2.2.2.2.2.2.2))])] (F6_an 35).1.toks 0
  out := fun y => match y with
    | .inl y => (.ret, mkS 169 [(12, (AV.list 1 y.1 none)), (56, (AV.list 1 y.2.1 none)), (99, (AV.list 1 y.2.2.1 none)), (2, (AV.v (.string y.2.2.2.1))), (3, (AV.v (.int .i64 y.2.2.2.2.1))), (8, (AV.v (.bool y.2.2.2.2.2.1))), (9, (AV.ptr 44 0)), (18, (AV.v (.string y.2.2.2.2.2.2.1))), (57, (AV.v (.int .i64 y.2.2.2.2.2.2.2.1))), (58, (AV.v (.int .i64 y.2.2.2.2.2.2.2.2.1))), (100, (AV.v (.int .i64 y.2.2.2.2.2.2.2.2.2.1))), (101, (AV.v (.int .i64 y.2.2.2.2.2.2.2.2.2.2.1)))] [(44, [(AV.list 1 y.2.2.2.2.2.2.2.2.2.2.2.1 none), (AV.v (.int .i64 y.2.2.2.2.2.2.2.2.2.2.2.2))])] (F6_an 35).2.toks 0)
    | .inr y => (.exit 4, mkS 169 [(12, (AV.list 1 y.1 none)), (56, (AV.list 1 y.2.1 none)), (99, (AV.list 1 y.2.2.1 none)), (2, (AV.v (.string y.2.2.2.1))), (3, (AV.v (.int .i64 y.2.2.2.2.1))), (9, (AV.ptr 44 0)), (18, (AV.v (.string y.2.2.2.2.2.1))), (57, (AV.v (.int .i64 y.2.2.2.2.2.2.1))), (58, (AV.v (.int .i64 y.2.2.2.2.2.2.2.1))), (100, (AV.v (.int .i64 y.2.2.2.2.2.2.2.2.1))), (101, (AV.v (.int .i64 y.2.2.2.2.2.2.2.2.2.1)))] [(44, [(AV.list 1 y.2.2.2.2.2.2.2.2.2.2.1 none), (AV.v (.int .i64 y.2.2.2.2.2.2.2.2.2.2.2))])] (F6_an 35).2.toks 0)
  sp := fun y α k => match y with
    | .inl y => k (.ret, mkS 169 [(12, (AV.list 1 y.1 none)), (56, (AV.list 1 y.2.1 none)), (99, (AV.list 1 y.2.2.1 none)), (2, (AV.v (.string y.2.2.2.1))), (3, (AV.v (.int .i64 y.2.2.2.2.1))), (8, (AV.v (.bool y.2.2.2.2.2.1))), (9, (AV.ptr 44 0)), (18, (AV.v (.string y.2.2.2.2.2.2.1))), (57, (AV.v (.int .i64 y.2.2.2.2.2.2.2.1))), (58, (AV.v (.int .i64 y.2.2.2.2.2.2.2.2.1))), (100, (AV.v (.int .i64 y.2.2.2.2.2.2.2.2.2.1))), (101, (AV.v (.int .i64 y.2.2.2.2.2.2.2.2.2.2.1)))] [(44, [(AV.list 1 y.2.2.2.2.2.2.2.2.2.2.2.1 none), (AV.v (.int .i64 y.2.2.2.2.2.2.2.2.2.2.2.2))])] (F6_an 35).2.toks 0)
    | .inr y => k (.exit 4, mkS 169 [(12, (AV.list 1 y.1 none)), (56, (AV.list 1 y.2.1 none)), (99, (AV.list 1 y.2.2.1 none)), (2, (AV.v (.string y.2.2.2.1))), (3, (AV.v (.int .i64 y.2.2.2.2.1))), (9, (AV.ptr 44 0)), (18, (AV.v (.string y.2.2.2.2.2.1))), (57, (AV.v (.int .i64 y.2.2.2.2.2.2.1))), (58, (AV.v (.int .i64 y.2.2.2.2.2.2.2.1))), (100, (AV.v (.int .i64 y.2.2.2.2.2.2.2.2.1))), (101, (AV.v (.int .i64 y.2.2.2.2.2.2.2.2.2.1)))] [(44, [(AV.list 1 y.2.2.2.2.2.2.2.2.2.2.1 none), (AV.v (.int .i64 y.2.2.2.2.2.2.2.2.2.2.2))])] (F6_an 35).2.toks 0)
  spe := fun y α k => by rcases y with _ | _ <;> rfl
  b := fun x α kn ke => (match (decide (x.2.2.2.2.2.2.2.2.2.2.2.2.1 < x.2.2.2.2.2.2.2.2.2.2.2.1)) with | true => (if 0 ≤ x.2.2.2.2.2.2.2.2.2.2.2.2.1 then (match x.2.2.2.1[x.2.2.2.2.2.2.2.2.2.2.2.2.1.toNat]? with | some c31 => (match c31[0]? with | some x32 => (match x32 with | .v (.int q34 n33) => (if q34 = .i64 then (match F16_d N (x.2.2.2.2.2.2.1, n33) with | some y35 => (match F25_d N (x.2.2.2.2.2.2.1, n33) with | some y36 => (match (y35.2 != y36.2) with | true => (ke (.inl (x.1, x.2.1, x.2.2.1, x.2.2.2.2.1, x.2.2.2.2.2.1, false, x.2.2.2.2.2.2.1, x.2.2.2.2.2.2.2.1, x.2.2.2.2.2.2.2.2.1, x.2.2.2.2.2.2.2.2.2.1, x.2.2.2.2.2.2.2.2.2.2.1, x.2.2.2.2.2.2.2.2.2.2.2.2.2.1, x.2.2.2.2.2.2.2.2.2.2.2.2.2.2))) | false => (match F17_d N (y35.1, y36.1) with | some y37 => (match (!y37) with | true => (ke (.inl (x.1, x.2.1, x.2.2.1, x.2.2.2.2.1, x.2.2.2.2.2.1, false, x.2.2.2.2.2.2.1, x.2.2.2.2.2.2.2.1, x.2.2.2.2.2.2.2.2.1, x.2.2.2.2.2.2.2.2.2.1, x.2.2.2.2.2.2.2.2.2.2.1, x.2.2.2.2.2.2.2.2.2.2.2.2.2.1, x.2.2.2.2.2.2.2.2.2.2.2.2.2.2))) | false => (match F26_d N (x.2.2.2.2.2.2.1, n33) with | some y38 => (match F27_d N (x.2.2.2.2.2.2.1, n33) with | some y39 => (match (!(y38 == y39)) with | true => (ke (.inl (x.1, x.2.1, x.2.2.1, x.2.2.2.2.1, x.2.2.2.2.2.1, false, x.2.2.2.2.2.2.1, x.2.2.2.2.2.2.2.1, x.2.2.2.2.2.2.2.2.1, x.2.2.2.2.2.2.2.2.2.1, x.2.2.2.2.2.2.2.2.2.2.1, x.2.2.2.2.2.2.2.2.2.2.2.2.2.1, x.2.2.2.2.2.2.2.2.2.2.2.2.2.2))) | false => (kn (x.1, x.2.1, x.2.2.1, x.2.2.2.1, x.2.2.2.2.1, x.2.2.2.2.2.1, x.2.2.2.2.2.2.1, x.2.2.2.2.2.2.2.1, x.2.2.2.2.2.2.2.2.1, x.2.2.2.2.2.2.2.2.2.1, x.2.2.2.2.2.2.2.2.2.2.1, x.2.2.2.2.2.2.2.2.2.2.2.1, (i64 (x.2.2.2.2.2.2.2.2.2.2.2.2.1 + 1)), x.2.2.2.2.2.2.2.2.2.2.2.2.2.1, x.2.2.2.2.2.2.2.2.2.2.2.2.2.2))) | none => none) | none => none)) | none => none)) | none => none) | none => none) else none) | _ => none) | none => none) | none => none) else none) | false => (ke (.inr (x.1, x.2.1, x.2.2.1, x.2.2.2.2.1, x.2.2.2.2.2.1, x.2.2.2.2.2.2.1, x.2.2.2.2.2.2.2.1, x.2.2.2.2.2.2.2.2.1, x.2.2.2.2.2.2.2.2.2.1, x.2.2.2.2.2.2.2.2.2.2.1, x.2.2.2.2.2.2.2.2.2.2.2.2.2.1, x.2.2.2.2.2.2.2.2.2.2.2.2.2.2))))
noncomputable abbrev F6_d35 (N : Nat) (x : (List (List AV)) × (List (List AV)) × (List (List AV)) × (List (List AV)) × ByteArray × Int × ByteArray × Int × Int × Int × Int × Int × Int × (List (List AV)) × Int) : Option (((List (List AV)) × (List (List AV)) × (List (List AV)) × ByteArray × Int × Bool × ByteArray × Int × Int × Int × Int × (List (List AV)) × Int) ⊕ ((List (List AV)) × (List (List AV)) × (List (List AV)) × ByteArray × Int × ByteArray × Int × Int × Int × Int × (List (List AV)) × Int)) := (F6_l35 N).L N x
noncomputable def F6_l25 (N : Nat) : LSpec where
  X := (List (List AV)) × (List (List AV)) × (List (List AV)) × ByteArray × Int × Int × Int × Int × Int × (List (List AV)) × Int
  Y := ((List (List AV)) × ByteArray × Int × Bool × Int × Int × (List (List AV)) × Int) ⊕ ((List (List AV)) × ByteArray × Int × Int × Int × (List (List AV)) × Int)
  p := fun s => match s.env.length, s.nin, s.at 12, s.at 56, s.at 99, s.at 2, s.at 3, s.at 9, s.at 57, s.at 58, s.at 100, s.at 101, s.bx 44 with
    | 169, 0, (AV.list 1 a0 none), (AV.list 1 a1 none), (AV.list 1 a2 none), (AV.v (.string a3)), (AV.v (.int .i64 a4)), (AV.ptr 44 0), (AV.v (.int .i64 a5)), (AV.v (.int .i64 a6)), (AV.v (.int .i64 a7)), (AV.v (.int .i64 a8)), some [(AV.list 1 a9 none), (AV.v (.int .i64 a10))] => some (a0, a1, a2, a3, a4, a5, a6, a7, a8, a9, a10)
    | _, _, _, _, _, _, _, _, _, _, _, _, _ => none
  st := fun x => mkS 169 [(12, (AV.list 1 x.1 none)), (56, (AV.list 1 x.2.1 none)), (99, (AV.list 1 x.2.2.1 none)), (2, (AV.v (.string x.2.2.2.1))), (3, (AV.v (.int .i64 x.2.2.2.2.1))), (9, (AV.ptr 44 0)), (57, (AV.v (.int .i64 x.2.2.2.2.2.1))), (58, (AV.v (.int .i64 x.2.2.2.2.2.2.1))), (100, (AV.v (.int .i64 x.2.2.2.2.2.2.2.1))), (101, (AV.v (.int .i64 x.2.2.2.2.2.2.2.2.1)))] [(44, [(AV.list 1 x.2.2.2.2.2.2.2.2.2.1 none), (AV.v (.int .i64 x.2.2.2.2.2.2.2.2.2.2))])] (F6_an 25).1.toks 0
  out := fun y => match y with
    | .inl y => (.ret, mkS 169 [(56, (AV.list 1 y.1 none)), (2, (AV.v (.string y.2.1))), (3, (AV.v (.int .i64 y.2.2.1))), (8, (AV.v (.bool y.2.2.2.1))), (9, (AV.ptr 44 0)), (57, (AV.v (.int .i64 y.2.2.2.2.1))), (58, (AV.v (.int .i64 y.2.2.2.2.2.1)))] [(44, [(AV.list 1 y.2.2.2.2.2.2.1 none), (AV.v (.int .i64 y.2.2.2.2.2.2.2))])] (F6_an 25).2.toks 0)
    | .inr y => (.exit 2, mkS 169 [(56, (AV.list 1 y.1 none)), (2, (AV.v (.string y.2.1))), (3, (AV.v (.int .i64 y.2.2.1))), (9, (AV.ptr 44 0)), (57, (AV.v (.int .i64 y.2.2.2.1))), (58, (AV.v (.int .i64 y.2.2.2.2.1)))] [(44, [(AV.list 1 y.2.2.2.2.2.1 none), (AV.v (.int .i64 y.2.2.2.2.2.2))])] (F6_an 25).2.toks 0)
  sp := fun y α k => match y with
    | .inl y => k (.ret, mkS 169 [(56, (AV.list 1 y.1 none)), (2, (AV.v (.string y.2.1))), (3, (AV.v (.int .i64 y.2.2.1))), (8, (AV.v (.bool y.2.2.2.1))), (9, (AV.ptr 44 0)), (57, (AV.v (.int .i64 y.2.2.2.2.1))), (58, (AV.v (.int .i64 y.2.2.2.2.2.1)))] [(44, [(AV.list 1 y.2.2.2.2.2.2.1 none), (AV.v (.int .i64 y.2.2.2.2.2.2.2))])] (F6_an 25).2.toks 0)
    | .inr y => k (.exit 2, mkS 169 [(56, (AV.list 1 y.1 none)), (2, (AV.v (.string y.2.1))), (3, (AV.v (.int .i64 y.2.2.1))), (9, (AV.ptr 44 0)), (57, (AV.v (.int .i64 y.2.2.2.1))), (58, (AV.v (.int .i64 y.2.2.2.2.1)))] [(44, [(AV.list 1 y.2.2.2.2.2.1 none), (AV.v (.int .i64 y.2.2.2.2.2.2))])] (F6_an 25).2.toks 0)
  spe := fun y α k => by rcases y with _ | _ <;> rfl
  b := fun x α kn ke => (match (decide (x.2.2.2.2.2.2.2.2.1 < x.2.2.2.2.2.2.2.1)) with | true => (if 0 ≤ x.2.2.2.2.2.2.2.2.1 then (match x.2.2.1[x.2.2.2.2.2.2.2.2.1.toNat]? with | some c46 => (match c46[0]? with | some x47 => (match x47 with | .v (.string s48) => (match F11_d N (40, x.2.2.2.2.2.2.2.2.2.1, x.2.2.2.2.2.2.2.2.2.2) with | some y49 => (match F6_d35 N (x.1, x.2.1, x.2.2.1, [[(AV.v (.int .i64 (x.1.length : Int)))], [(AV.v (.int .i64 x.2.2.2.2.1))], [(AV.v (.int .i64 y49.1))]], x.2.2.2.1, x.2.2.2.2.1, s48, x.2.2.2.2.2.1, x.2.2.2.2.2.2.1, x.2.2.2.2.2.2.2.1, x.2.2.2.2.2.2.2.2.1, ([[(AV.v (.int .i64 (x.1.length : Int)))], [(AV.v (.int .i64 x.2.2.2.2.1))], [(AV.v (.int .i64 y49.1))]].length : Int), 0, y49.2.1, y49.2.2) with | some y50 => (match y50 with | .inl z51 => (ke (.inl (z51.2.1, z51.2.2.2.1, z51.2.2.2.2.1, z51.2.2.2.2.2.1, z51.2.2.2.2.2.2.2.1, z51.2.2.2.2.2.2.2.2.1, z51.2.2.2.2.2.2.2.2.2.2.2.1, z51.2.2.2.2.2.2.2.2.2.2.2.2))) | .inr z52 => (match F28_d N z52.2.2.2.2.2.1 with | some y53 => (match F29_d N z52.2.2.2.2.2.1 with | some y54 => (match (y53.2 != y54.2) with | true => (ke (.inl (z52.2.1, z52.2.2.2.1, z52.2.2.2.2.1, false, z52.2.2.2.2.2.2.1, z52.2.2.2.2.2.2.2.1, z52.2.2.2.2.2.2.2.2.2.2.1, z52.2.2.2.2.2.2.2.2.2.2.2))) | false => (match F17_d N (y53.1, y54.1) with | some y55 => (match (!y55) with | true => (ke (.inl (z52.2.1, z52.2.2.2.1, z52.2.2.2.2.1, false, z52.2.2.2.2.2.2.1, z52.2.2.2.2.2.2.2.1, z52.2.2.2.2.2.2.2.2.2.2.1, z52.2.2.2.2.2.2.2.2.2.2.2))) | false => (kn (z52.1, z52.2.1, z52.2.2.1, z52.2.2.2.1, z52.2.2.2.2.1, z52.2.2.2.2.2.2.1, z52.2.2.2.2.2.2.2.1, z52.2.2.2.2.2.2.2.2.1, (i64 (z52.2.2.2.2.2.2.2.2.2.1 + 1)), z52.2.2.2.2.2.2.2.2.2.2.1, z52.2.2.2.2.2.2.2.2.2.2.2))) | none => none)) | none => none) | none => none)) | none => none) | none => none) | _ => none) | none => none) | none => none) else none) | false => (ke (.inr (x.2.1, x.2.2.2.1, x.2.2.2.2.1, x.2.2.2.2.2.1, x.2.2.2.2.2.2.1, x.2.2.2.2.2.2.2.2.2.1, x.2.2.2.2.2.2.2.2.2.2))))
noncomputable abbrev F6_d25 (N : Nat) (x : (List (List AV)) × (List (List AV)) × (List (List AV)) × ByteArray × Int × Int × Int × Int × Int × (List (List AV)) × Int) : Option (((List (List AV)) × ByteArray × Int × Bool × Int × Int × (List (List AV)) × Int) ⊕ ((List (List AV)) × ByteArray × Int × Int × Int × (List (List AV)) × Int)) := (F6_l25 N).L N x
noncomputable def F6_l10 (N : Nat) : LSpec where
  X := (List (List AV)) × ByteArray × Int × Int × Int × (List (List AV)) × Int
  Y := (Bool) ⊕ (Unit)
  p := fun s => match s.env.length, s.nin, s.at 56, s.at 2, s.at 3, s.at 9, s.at 57, s.at 58, s.bx 44 with
    | 169, 0, (AV.list 1 a0 none), (AV.v (.string a1)), (AV.v (.int .i64 a2)), (AV.ptr 44 0), (AV.v (.int .i64 a3)), (AV.v (.int .i64 a4)), some [(AV.list 1 a5 none), (AV.v (.int .i64 a6))] => some (a0, a1, a2, a3, a4, a5, a6)
    | _, _, _, _, _, _, _, _, _ => none
  st := fun x => mkS 169 [(56, (AV.list 1 x.1 none)), (2, (AV.v (.string x.2.1))), (3, (AV.v (.int .i64 x.2.2.1))), (9, (AV.ptr 44 0)), (57, (AV.v (.int .i64 x.2.2.2.1))), (58, (AV.v (.int .i64 x.2.2.2.2.1)))] [(44, [(AV.list 1 x.2.2.2.2.2.1 none), (AV.v (.int .i64 x.2.2.2.2.2.2))])] (F6_an 10).1.toks 0
  out := fun y => match y with
    | .inl y => (.ret, mkS 169 [(8, (AV.v (.bool y)))] [] (F6_an 10).2.toks 0)
    | .inr y => (.exit 0, mkS 169 [] [] (F6_an 10).2.toks 0)
  sp := fun y α k => match y with
    | .inl y => k (.ret, mkS 169 [(8, (AV.v (.bool y)))] [] (F6_an 10).2.toks 0)
    | .inr y => k (.exit 0, mkS 169 [] [] (F6_an 10).2.toks 0)
  spe := fun y α k => by rcases y with _ | _ <;> rfl
  b := fun x α kn ke => (match (decide (x.2.2.2.2.1 < x.2.2.2.1)) with | true => (if 0 ≤ x.2.2.2.2.1 then (match x.1[x.2.2.2.2.1.toNat]? with | some c8 => (match c8[0]? with | some x9 => (match lstOf 1 x9 with | some l10 => (match F14_d N l10 with | some y11 => (match F21_d N l10 with | some y12 => (match (!(y11.1.toList == y12.1.toList)) with | true => (ke (.inl false)) | false => (match (y11.2 != y12.2) with | true => (ke (.inl false)) | false => (match F13_d N l10 with | some y13 => (match F22_d N l10 with | some y14 => (match (y13 != y14) with | true => (ke (.inl false)) | false => (match F15_d N l10 with | some y15 => (match F23_d N l10 with | some y16 => (match (y15 != y16) with | true => (ke (.inl false)) | false => (match F24_d N (y12.1, x.2.2.2.2.2.1, x.2.2.2.2.2.2) with | some y17 => (match F6_d25 N (l10, x.1, [[(AV.v (.string y12.1))], [(AV.v (.string y17.1))], [(AV.v (.string x.2.1))]], x.2.1, x.2.2.1, x.2.2.2.1, x.2.2.2.2.1, ([[(AV.v (.string y12.1))], [(AV.v (.string y17.1))], [(AV.v (.string x.2.1))]].length : Int), 0, y17.2.1, y17.2.2) with | some y56 => (match y56 with | .inl z57 => (ke (.inl z57.2.2.2.1)) | .inr z58 => (kn (z58.1, z58.2.1, z58.2.2.1, z58.2.2.2.1, (i64 (z58.2.2.2.2.1 + 1)), z58.2.2.2.2.2.1, z58.2.2.2.2.2.2))) | none => none) | none => none)) | none => none) | none => none)) | none => none) | none => none))) | none => none) | none => none) | none => none) | none => none) | none => none) else none) | false => (ke (.inr ())))
noncomputable abbrev F6_d10 (N : Nat) (x : (List (List AV)) × ByteArray × Int × Int × Int × (List (List AV)) × Int) : Option ((Bool) ⊕ (Unit)) := (F6_l10 N).L N x
noncomputable def F6_s (N : Nat) : FSpec where
  X := (List (List AV)) × (List (List AV)) × ByteArray × Int
  Y := Bool
  ash := [[some 1], [some 1], [none], [none]]
  bsh := []
  S := ⟨[[none]], [], [], [], []⟩
  bm := false
  pat := fun a b => match a, b with
    | [(AV.list 1 a0 none), (AV.list 1 a1 none), (AV.v (.string a2)), (AV.v (.int .i64 a3))], [] => some (a0, a1, a2, a3)
    | _, _ => none
  args := fun x => [(AV.list 1 x.1 none), (AV.list 1 x.2.1 none), (AV.v (.string x.2.2.1)), (AV.v (.int .i64 x.2.2.2))]
  bs := fun x => []
  ret := fun y => ⟨(AV.v (.bool y)), [], none, [], [], []⟩
  t := fun x α k => (match F8_d N x.1 with | some y1 => (match (!y1) with | true => (match F9_d N () with | some y2 => (k y2) | none => none) | false => (match (decide ((x.2.1.length : Int) > 300)) with | true => (match F9_d N () with | some y3 => (k y3) | none => none) | false => (match (decide ((x.2.2.1.size : Int) > 700)) with | true => (match F9_d N () with | some y4 => (k y4) | none => none) | false => (match F10_d N x.1 with | some y5 => (match F18_d N (60, y5.1, y5.2) with | some y6 => (if y6.1.length * 8 ≤ maxBytes then (match F12_d N ([[(AV.v (.int .i64 1073741823))], [(AV.v (.int .i64 1073741824))], [(AV.v (.int .i64 (-1073741823)))]], y6.2.1, y6.2.2) with | some y7 => (if (y6.1.length + [[(AV.v (.int .i64 y7.1))]].length) * 8 ≤ maxBytes then (match F6_d10 N ([[(AV.list 1 y6.1 none)], [(AV.list 1 x.2.1 none)], [(AV.list 1 (y6.1 ++ [[(AV.v (.int .i64 y7.1))]]) none)]], x.2.2.1, x.2.2.2, ([[(AV.list 1 y6.1 none)], [(AV.list 1 x.2.1 none)], [(AV.list 1 (y6.1 ++ [[(AV.v (.int .i64 y7.1))]]) none)]].length : Int), 0, y7.2.1, y7.2.2) with | some y59 => (match y59 with | .inl z60 => (k z60) | .inr z61 => (match F9_d N () with | some y62 => (k y62) | none => none)) | none => none) else none) | none => none) else none) | none => none) | none => none)))) | none => none)
noncomputable abbrev F6_d (N : Nat) (x : (List (List AV)) × (List (List AV)) × ByteArray × Int) : Option (Bool) := (F6_s N).d x
theorem F6_par35 (N : Nat) : Par (F6_l35 N).b := by
  intro x α β kn ke kn' ke' r r' h h1 h2
  revert h
  dsimp only [F6_l35]
  (repeat' (first | (with_reducible refine par_ite ?_ ?_) | (with_reducible refine par_both ?_ ?_) | split)) <;> intro h <;> first | exact h1 _ h | exact h2 _ h | (cases h; done)
theorem F6_body35 (N : Nat) (x : (F6_l35 N).X) (α : Type) (kn : AS → Option α) (ke : Out → Option α) : around (tabOf Try.prog) (F6_g N) F6_an (lam N [(10, F6_l10 N), (25, F6_l25 N), (35, F6_l35 N)]) 35 (bodyOf (nthLoop 35 (Try.f6.body.getD .skip))) ((F6_l35 N).st x) kn ke = (F6_l35 N).b x α (fun x' => kn ((F6_l35 N).st x')) (fun y => (F6_l35 N).sp y α ke) := by kernel_rfl
theorem F6_pat35 (N : Nat) (s : AS) (x : (F6_l35 N).X) (hc : s = canon (F6_an 35).1 s) (h : (F6_l35 N).p s = some x) : s = (F6_l35 N).st x := by
  dsimp only [F6_l35] at h
  split at h
  · cases h
    exact canon_mk hc ‹_› ‹_› rfl rfl rfl ⟨‹_›, ‹_›, ‹_›, ‹_›, ‹_›, ‹_›, ‹_›, ‹_›, ‹_›, ‹_›, ‹_›, ‹_›, ‹_›, ‹_›, trivial⟩ ⟨‹_›, trivial⟩
  · cases h
theorem F6_loop35 (N : Nat) : ∀ s o, s = canon (F6_an 35).1 s → (lam N [(10, F6_l10 N), (25, F6_l25 N), (35, F6_l35 N)]).v 35 s = some o → LoopSem Try.prog (nthLoop 35 (Try.f6.body.getD .skip)) s o :=
  loop_ok (tabOf_ok Try.prog) (gam_ok _) mixed F6_an N [(10, F6_l10 N), (25, F6_l25 N), (35, F6_l35 N)] 35 (bodyOf (nthLoop 35 (Try.f6.body.getD .skip))) (nthLoop 35 (Try.f6.body.getD .skip)) (by kernel_rfl) (by
    have e : actOf F6_an (bodyOf (nthLoop 35 (Try.f6.body.getD .skip))) (35 + 1) = [] := by kernel_rfl
    rw [e]
    intro p hp
    cases hp) (F6_l35 N) rfl (fun s x hc h => F6_pat35 N s x hc h) (fun x => rfl) (fun x α kn ke => (F6_body35 N x α kn ke).trans (congrArg ((F6_l35 N).b x α _) (funext fun y => (F6_l35 N).spe y α ke))) (F6_par35 N)
theorem F6_par25 (N : Nat) : Par (F6_l25 N).b := by
  intro x α β kn ke kn' ke' r r' h h1 h2
  revert h
  dsimp only [F6_l25]
  (repeat' (first | (with_reducible refine par_ite ?_ ?_) | (with_reducible refine par_both ?_ ?_) | split)) <;> intro h <;> first | exact h1 _ h | exact h2 _ h | (cases h; done)
theorem F6_body25 (N : Nat) (x : (F6_l25 N).X) (α : Type) (kn : AS → Option α) (ke : Out → Option α) : around (tabOf Try.prog) (F6_g N) F6_an (lam N [(10, F6_l10 N), (25, F6_l25 N), (35, F6_l35 N)]) 25 (bodyOf (nthLoop 25 (Try.f6.body.getD .skip))) ((F6_l25 N).st x) kn ke = (F6_l25 N).b x α (fun x' => kn ((F6_l25 N).st x')) (fun y => (F6_l25 N).sp y α ke) := by kernel_rfl
theorem F6_pat25 (N : Nat) (s : AS) (x : (F6_l25 N).X) (hc : s = canon (F6_an 25).1 s) (h : (F6_l25 N).p s = some x) : s = (F6_l25 N).st x := by
  dsimp only [F6_l25] at h
  split at h
  · cases h
    exact canon_mk hc ‹_› ‹_› rfl rfl rfl ⟨‹_›, ‹_›, ‹_›, ‹_›, ‹_›, ‹_›, ‹_›, ‹_›, ‹_›, ‹_›, trivial⟩ ⟨‹_›, trivial⟩
  · cases h
theorem F6_loop25 (N : Nat) : ∀ s o, s = canon (F6_an 25).1 s → (lam N [(10, F6_l10 N), (25, F6_l25 N), (35, F6_l35 N)]).v 25 s = some o → LoopSem Try.prog (nthLoop 25 (Try.f6.body.getD .skip)) s o :=
  loop_ok (tabOf_ok Try.prog) (gam_ok _) mixed F6_an N [(10, F6_l10 N), (25, F6_l25 N), (35, F6_l35 N)] 25 (bodyOf (nthLoop 25 (Try.f6.body.getD .skip))) (nthLoop 25 (Try.f6.body.getD .skip)) (by kernel_rfl) (by
    have e : actOf F6_an (bodyOf (nthLoop 25 (Try.f6.body.getD .skip))) (25 + 1) = [(35, nthLoop 35 (Try.f6.body.getD .skip))] := by kernel_rfl
    rw [e]
    intro p hp
    rcases List.mem_cons.1 hp with rfl | hp
    · exact F6_loop35 N
    cases hp) (F6_l25 N) rfl (fun s x hc h => F6_pat25 N s x hc h) (fun x => rfl) (fun x α kn ke => (F6_body25 N x α kn ke).trans (congrArg ((F6_l25 N).b x α _) (funext fun y => (F6_l25 N).spe y α ke))) (F6_par25 N)
theorem F6_par10 (N : Nat) : Par (F6_l10 N).b := by
  intro x α β kn ke kn' ke' r r' h h1 h2
  revert h
  dsimp only [F6_l10]
  (repeat' (first | (with_reducible refine par_ite ?_ ?_) | (with_reducible refine par_both ?_ ?_) | split)) <;> intro h <;> first | exact h1 _ h | exact h2 _ h | (cases h; done)
theorem F6_body10 (N : Nat) (x : (F6_l10 N).X) (α : Type) (kn : AS → Option α) (ke : Out → Option α) : around (tabOf Try.prog) (F6_g N) F6_an (lam N [(10, F6_l10 N), (25, F6_l25 N), (35, F6_l35 N)]) 10 (bodyOf (nthLoop 10 (Try.f6.body.getD .skip))) ((F6_l10 N).st x) kn ke = (F6_l10 N).b x α (fun x' => kn ((F6_l10 N).st x')) (fun y => (F6_l10 N).sp y α ke) := by kernel_rfl
theorem F6_pat10 (N : Nat) (s : AS) (x : (F6_l10 N).X) (hc : s = canon (F6_an 10).1 s) (h : (F6_l10 N).p s = some x) : s = (F6_l10 N).st x := by
  dsimp only [F6_l10] at h
  split at h
  · cases h
    exact canon_mk hc ‹_› ‹_› rfl rfl rfl ⟨‹_›, ‹_›, ‹_›, ‹_›, ‹_›, ‹_›, trivial⟩ ⟨‹_›, trivial⟩
  · cases h
theorem F6_loop10 (N : Nat) : ∀ s o, s = canon (F6_an 10).1 s → (lam N [(10, F6_l10 N), (25, F6_l25 N), (35, F6_l35 N)]).v 10 s = some o → LoopSem Try.prog (nthLoop 10 (Try.f6.body.getD .skip)) s o :=
  loop_ok (tabOf_ok Try.prog) (gam_ok _) mixed F6_an N [(10, F6_l10 N), (25, F6_l25 N), (35, F6_l35 N)] 10 (bodyOf (nthLoop 10 (Try.f6.body.getD .skip))) (nthLoop 10 (Try.f6.body.getD .skip)) (by kernel_rfl) (by
    have e : actOf F6_an (bodyOf (nthLoop 10 (Try.f6.body.getD .skip))) (10 + 1) = [(25, nthLoop 25 (Try.f6.body.getD .skip)), (35, nthLoop 35 (Try.f6.body.getD .skip))] := by kernel_rfl
    rw [e]
    intro p hp
    rcases List.mem_cons.1 hp with rfl | hp
    · exact F6_loop25 N
    rcases List.mem_cons.1 hp with rfl | hp
    · exact F6_loop35 N
    cases hp) (F6_l10 N) rfl (fun s x hc h => F6_pat10 N s x hc h) (fun x => rfl) (fun x α kn ke => (F6_body10 N x α kn ke).trans (congrArg ((F6_l10 N).b x α _) (funext fun y => (F6_l10 N).spe y α ke))) (F6_par10 N)
theorem F6_parF (N : Nat) : ParF (F6_s N).t := by
  intro x α β k k' r r' h h1
  revert h
  dsimp only [F6_s]
  (repeat' (first | (with_reducible refine par_ite ?_ ?_) | (with_reducible refine par_both ?_ ?_) | split)) <;> intro h <;> first | exact h1 _ h | (cases h; done)
theorem F6_text (N : Nat) (x : (F6_s N).X) : acall (tabOf Try.prog) (F6_g N) F6_an (lam N [(10, F6_l10 N), (25, F6_l25 N), (35, F6_l35 N)]) Try.f6 (F6_s N).S ((F6_s N).args x) ((F6_s N).bs x) = (F6_s N).t x Ret (fun y => some ((F6_s N).ret y)) := by kernel_rfl
theorem F6_pat (N : Nat) (a : List AV) (b : List (List AV)) (x : (F6_s N).X) (h : (F6_s N).pat a b = some x) : a = (F6_s N).args x ∧ b = (F6_s N).bs x := by
  dsimp only [F6_s] at h
  split at h
  · cases h; exact ⟨rfl, rfl⟩
  · cases h
noncomputable def F6_e (N : Nat) : Ent Try.prog := entOf (tabOf_ok Try.prog) (gam_ok _) mixed 6 Try.f6 Try.func6 rfl F6_an (lam N [(10, F6_l10 N), (25, F6_l25 N), (35, F6_l35 N)]) (by
    have e : actOf F6_an (Try.f6.body.getD .skip) 0 = [(10, nthLoop 10 (Try.f6.body.getD .skip)), (25, nthLoop 25 (Try.f6.body.getD .skip)), (35, nthLoop 35 (Try.f6.body.getD .skip))] := by kernel_rfl
    rw [e]
    intro p hp
    rcases List.mem_cons.1 hp with rfl | hp
    · exact F6_loop10 N
    rcases List.mem_cons.1 hp with rfl | hp
    · exact F6_loop25 N
    rcases List.mem_cons.1 hp with rfl | hp
    · exact F6_loop35 N
    cases hp) (F6_s N) (fun _ => ⟨rfl, rfl⟩) (F6_text N) (F6_pat N) (F6_parF N)
end Go.Proofs.Yteplhedodcaljaa
