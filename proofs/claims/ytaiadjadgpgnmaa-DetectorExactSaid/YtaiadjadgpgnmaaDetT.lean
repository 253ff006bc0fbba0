/- Functions without memory. (written by sx.py) -/
import Derived.Test.YtaiadjadgpgnmaaSymY
namespace Go.Proofs.Ytaiadjadgpgnmaa
open Go.RowKit
set_option linter.unusedVariables false
set_option linter.unusedSimpArgs false
set_option linter.unnecessarySimpa false
set_option maxRecDepth 4000
/-! ### seismonet/seismonetmade.Light (function 8) -/
def F8_an : Nat → Keep × Keep := anL []
noncomputable def F8_g (N : Nat) : GamK := gam (P := Try.prog) []
noncomputable def F8_s (N : Nat) : FSpec where
  X := (List (List AV))
  Y := Bool
  ash := [[some 1]]
  bsh := []
  S := ⟨[[none]], [], [], [], []⟩
  bm := false
  pat := fun a b => match a, b with
    | [(AV.list 1 a0 none)], [] => some a0
    | _, _ => none
  args := fun x => [(AV.list 1 x none)]
  bs := fun x => []
  ret := fun y => ⟨(AV.v (.bool y)), [], none, [], [], []⟩
  t := fun x α k => (k (decide ((x.length : Int) ≤ 500)))
noncomputable abbrev F8_d (N : Nat) (x : (List (List AV))) : Option (Bool) := (F8_s N).d x
theorem F8_parF (N : Nat) : ParF (F8_s N).t := by
  intro x α β k k' r r' h h1
  revert h
  dsimp only [F8_s]
  (repeat' (first | (with_reducible refine par_ite ?_ ?_) | (with_reducible refine par_both ?_ ?_) | split)) <;> intro h <;> first | exact h1 _ h | (cases h; done)
theorem F8_text (N : Nat) (x : (F8_s N).X) : acall (tabOf Try.prog) (F8_g N) F8_an (lam N []) Try.f8 (F8_s N).S ((F8_s N).args x) ((F8_s N).bs x) = (F8_s N).t x Ret (fun y => some ((F8_s N).ret y)) := by kernel_rfl
theorem F8_pat (N : Nat) (a : List AV) (b : List (List AV)) (x : (F8_s N).X) (h : (F8_s N).pat a b = some x) : a = (F8_s N).args x ∧ b = (F8_s N).bs x := by
  dsimp only [F8_s] at h
  split at h
  · cases h; exact ⟨rfl, rfl⟩
  · cases h
noncomputable def F8_e (N : Nat) : Ent Try.prog := entOf (tabOf_ok Try.prog) (gam_ok _) mixed 8 Try.f8 Try.func8 rfl F8_an (lam N []) (by
    have e : actOf F8_an (Try.f8.body.getD .skip) 0 = [] := by kernel_rfl
    rw [e]
    intro p hp
    cases hp) (F8_s N) (fun _ => ⟨rfl, rfl⟩) (F8_text N) (F8_pat N) (F8_parF N)
/-! ### seismonet/detector.Valid (function 25) -/
def F25_an : Nat → Keep × Keep := anL []
noncomputable def F25_g (N : Nat) : GamK := gam (P := Try.prog) []
noncomputable def F25_s (N : Nat) : FSpec where
  X := Int × Int × Int × Int
  Y := Bool
  ash := [[none, none, none, none]]
  bsh := []
  S := ⟨[[none]], [], [], [], []⟩
  bm := false
  pat := fun a b => match a, b with
    | [(AV.agg [(AV.v (.int .i64 a0)), (AV.v (.int .i64 a1)), (AV.v (.int .i64 a2)), (AV.v (.int .i64 a3))])], [] => some (a0, a1, a2, a3)
    | _, _ => none
  args := fun x => [(AV.agg [(AV.v (.int .i64 x.1)), (AV.v (.int .i64 x.2.1)), (AV.v (.int .i64 x.2.2.1)), (AV.v (.int .i64 x.2.2.2))])]
  bs := fun x => []
  ret := fun y => ⟨(AV.v (.bool y)), [], none, [], [], []⟩
  t := fun x α k => (match (decide (x.1 ≥ 1)) with | true => (match (decide (x.1 < x.2.1)) with | true => (match (decide (x.2.1 ≤ 512)) with | true => (match (decide (x.2.2.2 ≥ 1)) with | true => (match (decide (x.2.2.2 ≤ x.2.2.1)) with | true => (k (decide (x.2.2.1 ≤ 10000))) | false => (k false)) | false => (k false)) | false => (k false)) | false => (k false)) | false => (k false))
noncomputable abbrev F25_d (N : Nat) (x : Int × Int × Int × Int) : Option (Bool) := (F25_s N).d x
theorem F25_parF (N : Nat) : ParF (F25_s N).t := by
  intro x α β k k' r r' h h1
  revert h
  dsimp only [F25_s]
  (repeat' (first | (with_reducible refine par_ite ?_ ?_) | (with_reducible refine par_both ?_ ?_) | split)) <;> intro h <;> first | exact h1 _ h | (cases h; done)
theorem F25_text (N : Nat) (x : (F25_s N).X) : acall (tabOf Try.prog) (F25_g N) F25_an (lam N []) Try.f25 (F25_s N).S ((F25_s N).args x) ((F25_s N).bs x) = (F25_s N).t x Ret (fun y => some ((F25_s N).ret y)) := by kernel_rfl
theorem F25_pat (N : Nat) (a : List AV) (b : List (List AV)) (x : (F25_s N).X) (h : (F25_s N).pat a b = some x) : a = (F25_s N).args x ∧ b = (F25_s N).bs x := by
  dsimp only [F25_s] at h
  split at h
  · cases h; exact ⟨rfl, rfl⟩
  · cases h
noncomputable def F25_e (N : Nat) : Ent Try.prog := entOf (tabOf_ok Try.prog) (gam_ok _) mixed 25 Try.f25 Try.func25 rfl F25_an (lam N []) (by
    have e : actOf F25_an (Try.f25.body.getD .skip) 0 = [] := by kernel_rfl
    rw [e]
    intro p hp
    cases hp) (F25_s N) (fun _ => ⟨rfl, rfl⟩) (F25_text N) (F25_pat N) (F25_parF N)
/-! ### seismonet/detector.in (function 37) -/
def F37_an : Nat → Keep × Keep := anL []
noncomputable def F37_g (N : Nat) : GamK := gam (P := Try.prog) []
noncomputable def F37_s (N : Nat) : FSpec where
  X := Int × Int × Int
  Y := Bool
  ash := [[none], [none], [none]]
  bsh := []
  S := ⟨[[none]], [], [], [], []⟩
  bm := false
  pat := fun a b => match a, b with
    | [(AV.v (.int .i64 a0)), (AV.v (.int .i64 a1)), (AV.v (.int .i64 a2))], [] => some (a0, a1, a2)
    | _, _ => none
  args := fun x => [(AV.v (.int .i64 x.1)), (AV.v (.int .i64 x.2.1)), (AV.v (.int .i64 x.2.2))]
  bs := fun x => []
  ret := fun y => ⟨(AV.v (.bool y)), [], none, [], [], []⟩
  t := fun x α k => (match (decide (x.1 ≥ x.2.1)) with | true => (k (decide (x.1 ≤ x.2.2))) | false => (k false))
noncomputable abbrev F37_d (N : Nat) (x : Int × Int × Int) : Option (Bool) := (F37_s N).d x
theorem F37_parF (N : Nat) : ParF (F37_s N).t := by
  intro x α β k k' r r' h h1
  revert h
  dsimp only [F37_s]
  (repeat' (first | (with_reducible refine par_ite ?_ ?_) | (with_reducible refine par_both ?_ ?_) | split)) <;> intro h <;> first | exact h1 _ h | (cases h; done)
theorem F37_text (N : Nat) (x : (F37_s N).X) : acall (tabOf Try.prog) (F37_g N) F37_an (lam N []) Try.f37 (F37_s N).S ((F37_s N).args x) ((F37_s N).bs x) = (F37_s N).t x Ret (fun y => some ((F37_s N).ret y)) := by kernel_rfl
theorem F37_pat (N : Nat) (a : List AV) (b : List (List AV)) (x : (F37_s N).X) (h : (F37_s N).pat a b = some x) : a = (F37_s N).args x ∧ b = (F37_s N).bs x := by
  dsimp only [F37_s] at h
  split at h
  · cases h; exact ⟨rfl, rfl⟩
  · cases h
noncomputable def F37_e (N : Nat) : Ent Try.prog := entOf (tabOf_ok Try.prog) (gam_ok _) mixed 37 Try.f37 Try.func37 rfl F37_an (lam N []) (by
    have e : actOf F37_an (Try.f37.body.getD .skip) 0 = [] := by kernel_rfl
    rw [e]
    intro p hp
    cases hp) (F37_s N) (fun _ => ⟨rfl, rfl⟩) (F37_text N) (F37_pat N) (F37_parF N)
/-! ### seismonet/detector.wrong (function 34) -/
def F34_an : Nat → Keep × Keep := anL []
noncomputable def F34_g (N : Nat) : GamK := gam (P := Try.prog) [F37_e N]
noncomputable def F34_s (N : Nat) : FSpec where
  X := Int
  Y := Bool
  ash := [[none]]
  bsh := []
  S := ⟨[[none]], [], [], [], []⟩
  bm := false
  pat := fun a b => match a, b with
    | [(AV.v (.int .i64 a0))], [] => some a0
    | _, _ => none
  args := fun x => [(AV.v (.int .i64 x))]
  bs := fun x => []
  ret := fun y => ⟨(AV.v (.bool y)), [], none, [], [], []⟩
  t := fun x α k => (match F37_d N (x, (-1073741823), 1073741823) with | some y1 => (k (!y1)) | none => none)
noncomputable abbrev F34_d (N : Nat) (x : Int) : Option (Bool) := (F34_s N).d x
theorem F34_parF (N : Nat) : ParF (F34_s N).t := by
  intro x α β k k' r r' h h1
  revert h
  dsimp only [F34_s]
  (repeat' (first | (with_reducible refine par_ite ?_ ?_) | (with_reducible refine par_both ?_ ?_) | split)) <;> intro h <;> first | exact h1 _ h | (cases h; done)
theorem F34_text (N : Nat) (x : (F34_s N).X) : acall (tabOf Try.prog) (F34_g N) F34_an (lam N []) Try.f34 (F34_s N).S ((F34_s N).args x) ((F34_s N).bs x) = (F34_s N).t x Ret (fun y => some ((F34_s N).ret y)) := by kernel_rfl
theorem F34_pat (N : Nat) (a : List AV) (b : List (List AV)) (x : (F34_s N).X) (h : (F34_s N).pat a b = some x) : a = (F34_s N).args x ∧ b = (F34_s N).bs x := by
  dsimp only [F34_s] at h
  split at h
  · cases h; exact ⟨rfl, rfl⟩
  · cases h
noncomputable def F34_e (N : Nat) : Ent Try.prog := entOf (tabOf_ok Try.prog) (gam_ok _) mixed 34 Try.f34 Try.func34 rfl F34_an (lam N []) (by
    have e : actOf F34_an (Try.f34.body.getD .skip) 0 = [] := by kernel_rfl
    rw [e]
    intro p hp
    cases hp) (F34_s N) (fun _ => ⟨rfl, rfl⟩) (F34_text N) (F34_pat N) (F34_parF N)
/-! ### slices.IndexFunc[[]int,int] (function 48) -/
def F48_an : Nat → Keep × Keep := anL [(4, ⟨[1, 7, 8], [], [], [(0, 1)], [], [], [], [], false⟩, ⟨[4], [], [], [], [], [], [], [], false⟩)]
noncomputable def F48_g (N : Nat) : GamK := gam (P := Try.prog) [F34_e N]
noncomputable def F48_l4 (N : Nat) : LSpec where
  X := (List (List AV)) × Int × Int
  Y := (Int) ⊕ (Unit)
  p := fun s => match s.env.length, s.nin, s.at 0, s.at 1, s.at 7, s.at 8 with
    | 19, 0, (AV.list 1 a0 none), (AV.fn (.func 34) [] []), (AV.v (.int .i64 a1)), (AV.v (.int .i64 a2)) => some (a0, a1, a2)
    | _, _, _, _, _, _ => none
  st := fun x => mkS 19 [(0, (AV.list 1 x.1 none)), (1, (AV.fn (.func 34) [] [])), (7, (AV.v (.int .i64 x.2.1))), (8, (AV.v (.int .i64 x.2.2)))] [] (F48_an 4).1.toks 0
  out := fun y => match y with
    | .inl y => (.ret, mkS 19 [(4, (AV.v (.int .i64 y)))] [] (F48_an 4).2.toks 0)
    | .inr y => (.exit 0, mkS 19 [] [] (F48_an 4).2.toks 0)
  sp := fun y α k => match y with
    | .inl y => k (.ret, mkS 19 [(4, (AV.v (.int .i64 y)))] [] (F48_an 4).2.toks 0)
    | .inr y => k (.exit 0, mkS 19 [] [] (F48_an 4).2.toks 0)
  spe := fun y α k => by rcases y with _ | _ <;> rfl
  b := fun x α kn ke => (match (decide (x.2.2 < x.2.1)) with | true => (if 0 ≤ x.2.2 then (match x.1[x.2.2.toNat]? with | some c1 => (match c1[0]? with | some x2 => (match x2 with | .v (.int q4 n3) => (if q4 = .i64 then (match F34_d N n3 with | some y5 => (match y5 with | true => (ke (.inl x.2.2)) | false => (kn (x.1, x.2.1, (i64 (x.2.2 + 1))))) | none => none) else none) | _ => none) | none => none) | none => none) else none) | false => (ke (.inr ())))
noncomputable abbrev F48_d4 (N : Nat) (x : (List (List AV)) × Int × Int) : Option ((Int) ⊕ (Unit)) := (F48_l4 N).L N x
noncomputable def F48_s (N : Nat) : FSpec where
  X := (List (List AV))
  Y := Int
  ash := [[some 1], [none]]
  bsh := []
  S := ⟨[[none]], [], [], [], []⟩
  bm := false
  pat := fun a b => match a, b with
    | [(AV.list 1 a0 none), (AV.fn (.func 34) [] [])], [] => some a0
    | _, _ => none
  args := fun x => [(AV.list 1 x none), (AV.fn (.func 34) [] [])]
  bs := fun x => []
  ret := fun y => ⟨(AV.v (.int .i64 y)), [], none, [], [], []⟩
  t := fun x α k => (match F48_d4 N (x, (x.length : Int), 0) with | some y6 => (match y6 with | .inl z7 => (k z7) | .inr z8 => (k (-1))) | none => none)
noncomputable abbrev F48_d (N : Nat) (x : (List (List AV))) : Option (Int) := (F48_s N).d x
theorem F48_par4 (N : Nat) : Par (F48_l4 N).b := by
  intro x α β kn ke kn' ke' r r' h h1 h2
  revert h
  dsimp only [F48_l4]
  (repeat' (first | (with_reducible refine par_ite ?_ ?_) | (with_reducible refine par_both ?_ ?_) | split)) <;> intro h <;> first | exact h1 _ h | exact h2 _ h | (cases h; done)
theorem F48_body4 (N : Nat) (x : (F48_l4 N).X) (α : Type) (kn : AS → Option α) (ke : Out → Option α) : around (tabOf Try.prog) (F48_g N) F48_an (lam N [(4, F48_l4 N)]) 4 (bodyOf (nthLoop 4 (Try.f48.body.getD .skip))) ((F48_l4 N).st x) kn ke = (F48_l4 N).b x α (fun x' => kn ((F48_l4 N).st x')) (fun y => (F48_l4 N).sp y α ke) := by kernel_rfl
theorem F48_pat4 (N : Nat) (s : AS) (x : (F48_l4 N).X) (hc : s = canon (F48_an 4).1 s) (h : (F48_l4 N).p s = some x) : s = (F48_l4 N).st x := by
  dsimp only [F48_l4] at h
  split at h
  · cases h
    exact canon_mk hc ‹_› ‹_› rfl rfl rfl ⟨‹_›, ‹_›, ‹_›, ‹_›, trivial⟩ trivial
  · cases h
theorem F48_loop4 (N : Nat) : ∀ s o, s = canon (F48_an 4).1 s → (lam N [(4, F48_l4 N)]).v 4 s = some o → LoopSem Try.prog (nthLoop 4 (Try.f48.body.getD .skip)) s o :=
  loop_ok (tabOf_ok Try.prog) (gam_ok _) mixed F48_an N [(4, F48_l4 N)] 4 (bodyOf (nthLoop 4 (Try.f48.body.getD .skip))) (nthLoop 4 (Try.f48.body.getD .skip)) (by kernel_rfl) (by
    have e : actOf F48_an (bodyOf (nthLoop 4 (Try.f48.body.getD .skip))) (4 + 1) = [] := by kernel_rfl
    rw [e]
    intro p hp
    cases hp) (F48_l4 N) rfl (fun s x hc h => F48_pat4 N s x hc h) (fun x => rfl) (fun x α kn ke => (F48_body4 N x α kn ke).trans (congrArg ((F48_l4 N).b x α _) (funext fun y => (F48_l4 N).spe y α ke))) (F48_par4 N)
theorem F48_parF (N : Nat) : ParF (F48_s N).t := by
  intro x α β k k' r r' h h1
  revert h
  dsimp only [F48_s]
  (repeat' (first | (with_reducible refine par_ite ?_ ?_) | (with_reducible refine par_both ?_ ?_) | split)) <;> intro h <;> first | exact h1 _ h | (cases h; done)
theorem F48_text (N : Nat) (x : (F48_s N).X) : acall (tabOf Try.prog) (F48_g N) F48_an (lam N [(4, F48_l4 N)]) Try.f48 (F48_s N).S ((F48_s N).args x) ((F48_s N).bs x) = (F48_s N).t x Ret (fun y => some ((F48_s N).ret y)) := by kernel_rfl
theorem F48_pat (N : Nat) (a : List AV) (b : List (List AV)) (x : (F48_s N).X) (h : (F48_s N).pat a b = some x) : a = (F48_s N).args x ∧ b = (F48_s N).bs x := by
  dsimp only [F48_s] at h
  split at h
  · cases h; exact ⟨rfl, rfl⟩
  · cases h
noncomputable def F48_e (N : Nat) : Ent Try.prog := entOf (tabOf_ok Try.prog) (gam_ok _) mixed 48 Try.f48 Try.func48 rfl F48_an (lam N [(4, F48_l4 N)]) (by
    have e : actOf F48_an (Try.f48.body.getD .skip) 0 = [(4, nthLoop 4 (Try.f48.body.getD .skip))] := by kernel_rfl
    rw [e]
    intro p hp
    rcases List.mem_cons.1 hp with rfl | hp
    · exact F48_loop4 N
    cases hp) (F48_s N) (fun _ => ⟨rfl, rfl⟩) (F48_text N) (F48_pat N) (F48_parF N)
/-! ### slices.ContainsFunc[[]int,int] (function 33) -/
def F33_an : Nat → Keep × Keep := anL []
noncomputable def F33_g (N : Nat) : GamK := gam (P := Try.prog) [F48_e N]
noncomputable def F33_s (N : Nat) : FSpec where
  X := (List (List AV))
  Y := Bool
  ash := [[some 1], [none]]
  bsh := []
  S := ⟨[[none]], [], [], [], []⟩
  bm := false
  pat := fun a b => match a, b with
    | [(AV.list 1 a0 none), (AV.fn (.func 34) [] [])], [] => some a0
    | _, _ => none
  args := fun x => [(AV.list 1 x none), (AV.fn (.func 34) [] [])]
  bs := fun x => []
  ret := fun y => ⟨(AV.v (.bool y)), [], none, [], [], []⟩
  t := fun x α k => (match F48_d N x with | some y1 => (k (decide (y1 ≥ 0))) | none => none)
noncomputable abbrev F33_d (N : Nat) (x : (List (List AV))) : Option (Bool) := (F33_s N).d x
theorem F33_parF (N : Nat) : ParF (F33_s N).t := by
  intro x α β k k' r r' h h1
  revert h
  dsimp only [F33_s]
  (repeat' (first | (with_reducible refine par_ite ?_ ?_) | (with_reducible refine par_both ?_ ?_) | split)) <;> intro h <;> first | exact h1 _ h | (cases h; done)
theorem F33_text (N : Nat) (x : (F33_s N).X) : acall (tabOf Try.prog) (F33_g N) F33_an (lam N []) Try.f33 (F33_s N).S ((F33_s N).args x) ((F33_s N).bs x) = (F33_s N).t x Ret (fun y => some ((F33_s N).ret y)) := by kernel_rfl
theorem F33_pat (N : Nat) (a : List AV) (b : List (List AV)) (x : (F33_s N).X) (h : (F33_s N).pat a b = some x) : a = (F33_s N).args x ∧ b = (F33_s N).bs x := by
  dsimp only [F33_s] at h
  split at h
  · cases h; exact ⟨rfl, rfl⟩
  · cases h
noncomputable def F33_e (N : Nat) : Ent Try.prog := entOf (tabOf_ok Try.prog) (gam_ok _) mixed 33 Try.f33 Try.func33 rfl F33_an (lam N []) (by
    have e : actOf F33_an (Try.f33.body.getD .skip) 0 = [] := by kernel_rfl
    rw [e]
    intro p hp
    cases hp) (F33_s N) (fun _ => ⟨rfl, rfl⟩) (F33_text N) (F33_pat N) (F33_parF N)
/-! ### seismonet/detector.Start (function 18) -/
def F18_an : Nat → Keep × Keep := anL []
noncomputable def F18_g (N : Nat) : GamK := gam (P := Try.prog) [F25_e N]
noncomputable def F18_s (N : Nat) : FSpec where
  X := Int × Int × Int × Int
  Y := Int × Int × Int × Int × (List (List AV)) × Int × Int × Int × Int × Int
  ash := [[none, none, none, none]]
  bsh := []
  S := ⟨[[none, none, none, none, some 1, none, none, none, none], [none]], [], [], [], []⟩
  bm := false
  pat := fun a b => match a, b with
    | [(AV.agg [(AV.v (.int .i64 a0)), (AV.v (.int .i64 a1)), (AV.v (.int .i64 a2)), (AV.v (.int .i64 a3))])], [] => some (a0, a1, a2, a3)
    | _, _ => none
  args := fun x => [(AV.agg [(AV.v (.int .i64 x.1)), (AV.v (.int .i64 x.2.1)), (AV.v (.int .i64 x.2.2.1)), (AV.v (.int .i64 x.2.2.2))])]
  bs := fun x => []
  ret := fun y => ⟨(AV.tup [(AV.agg [(AV.v (.int .i64 y.1)), (AV.v (.int .i64 y.2.1)), (AV.v (.int .i64 y.2.2.1)), (AV.v (.int .i64 y.2.2.2.1)), (AV.list 1 y.2.2.2.2.1 none), (AV.v (.int .i64 y.2.2.2.2.2.1)), (AV.v (.int .i64 y.2.2.2.2.2.2.1)), (AV.v (.int .i64 y.2.2.2.2.2.2.2.1)), (AV.v (.int .i64 y.2.2.2.2.2.2.2.2.1))]), (AV.v (.int .i64 y.2.2.2.2.2.2.2.2.2))]), [], none, [], [], []⟩
  t := fun x α k => (match F25_d N (x.1, x.2.1, x.2.2.1, x.2.2.2) with | some y1 => (match (!y1) with | true => (k (0, 0, 0, 0, ([] : List (List AV)), 0, 0, 0, 0, 1)) | false => (k (x.1, x.2.1, x.2.2.1, x.2.2.2, ([] : List (List AV)), 0, (-1), 0, 0, 0))) | none => none)
noncomputable abbrev F18_d (N : Nat) (x : Int × Int × Int × Int) : Option (Int × Int × Int × Int × (List (List AV)) × Int × Int × Int × Int × Int) := (F18_s N).d x
theorem F18_parF (N : Nat) : ParF (F18_s N).t := by
  intro x α β k k' r r' h h1
  revert h
  dsimp only [F18_s]
  (repeat' (first | (with_reducible refine par_ite ?_ ?_) | (with_reducible refine par_both ?_ ?_) | split)) <;> intro h <;> first | exact h1 _ h | (cases h; done)
theorem F18_text (N : Nat) (x : (F18_s N).X) : acall (tabOf Try.prog) (F18_g N) F18_an (lam N []) Try.f18 (F18_s N).S ((F18_s N).args x) ((F18_s N).bs x) = (F18_s N).t x Ret (fun y => some ((F18_s N).ret y)) := by kernel_rfl
theorem F18_pat (N : Nat) (a : List AV) (b : List (List AV)) (x : (F18_s N).X) (h : (F18_s N).pat a b = some x) : a = (F18_s N).args x ∧ b = (F18_s N).bs x := by
  dsimp only [F18_s] at h
  split at h
  · cases h; exact ⟨rfl, rfl⟩
  · cases h
noncomputable def F18_e (N : Nat) : Ent Try.prog := entOf (tabOf_ok Try.prog) (gam_ok _) mixed 18 Try.f18 Try.func18 rfl F18_an (lam N []) (by
    have e : actOf F18_an (Try.f18.body.getD .skip) 0 = [] := by kernel_rfl
    rw [e]
    intro p hp
    cases hp) (F18_s N) (fun _ => ⟨rfl, rfl⟩) (F18_text N) (F18_pat N) (F18_parF N)
/-! ### seismonet/detector.abs (function 49) -/
def F49_an : Nat → Keep × Keep := anL []
noncomputable def F49_g (N : Nat) : GamK := gam (P := Try.prog) []
noncomputable def F49_s (N : Nat) : FSpec where
  X := Int
  Y := Int
  ash := [[none]]
  bsh := []
  S := ⟨[[none]], [], [], [], []⟩
  bm := false
  pat := fun a b => match a, b with
    | [(AV.v (.int .i64 a0))], [] => some a0
    | _, _ => none
  args := fun x => [(AV.v (.int .i64 x))]
  bs := fun x => []
  ret := fun y => ⟨(AV.v (.int .i64 y)), [], none, [], [], []⟩
  t := fun x α k => (k (if (i64 (0 - x)) > x then (i64 (0 - x)) else x))
noncomputable abbrev F49_d (N : Nat) (x : Int) : Option (Int) := (F49_s N).d x
theorem F49_parF (N : Nat) : ParF (F49_s N).t := by
  intro x α β k k' r r' h h1
  revert h
  dsimp only [F49_s]
  (repeat' (first | (with_reducible refine par_ite ?_ ?_) | (with_reducible refine par_both ?_ ?_) | split)) <;> intro h <;> first | exact h1 _ h | (cases h; done)
theorem F49_text (N : Nat) (x : (F49_s N).X) : acall (tabOf Try.prog) (F49_g N) F49_an (lam N []) Try.f49 (F49_s N).S ((F49_s N).args x) ((F49_s N).bs x) = (F49_s N).t x Ret (fun y => some ((F49_s N).ret y)) := by kernel_rfl
theorem F49_pat (N : Nat) (a : List AV) (b : List (List AV)) (x : (F49_s N).X) (h : (F49_s N).pat a b = some x) : a = (F49_s N).args x ∧ b = (F49_s N).bs x := by
  dsimp only [F49_s] at h
  split at h
  · cases h; exact ⟨rfl, rfl⟩
  · cases h
noncomputable def F49_e (N : Nat) : Ent Try.prog := entOf (tabOf_ok Try.prog) (gam_ok _) mixed 49 Try.f49 Try.func49 rfl F49_an (lam N []) (by
    have e : actOf F49_an (Try.f49.body.getD .skip) 0 = [] := by kernel_rfl
    rw [e]
    intro p hp
    cases hp) (F49_s N) (fun _ => ⟨rfl, rfl⟩) (F49_text N) (F49_pat N) (F49_parF N)
/-! ### seismonet/detector.sum (function 38) -/
def F38_an : Nat → Keep × Keep := anL [(5, ⟨[3, 7, 8], [], [], [(6, 1)], [], [], [], [], false⟩, ⟨[3], [], [], [], [], [], [], [], false⟩)]
noncomputable def F38_g (N : Nat) : GamK := gam (P := Try.prog) [F49_e N]
noncomputable def F38_l5 (N : Nat) : LSpec where
  X := (List (List AV)) × Int × Int × Int
  Y := (Int)
  p := fun s => match s.env.length, s.nin, s.at 6, s.at 3, s.at 7, s.at 8 with
    | 18, 0, (AV.list 1 a0 none), (AV.v (.int .i64 a1)), (AV.v (.int .i64 a2)), (AV.v (.int .i64 a3)) => some (a0, a1, a2, a3)
    | _, _, _, _, _, _ => none
  st := fun x => mkS 18 [(6, (AV.list 1 x.1 none)), (3, (AV.v (.int .i64 x.2.1))), (7, (AV.v (.int .i64 x.2.2.1))), (8, (AV.v (.int .i64 x.2.2.2)))] [] (F38_an 5).1.toks 0
  out := fun y => (.exit 0, mkS 18 [(3, (AV.v (.int .i64 y)))] [] (F38_an 5).2.toks 0)
  sp := fun y α k => k (.exit 0, mkS 18 [(3, (AV.v (.int .i64 y)))] [] (F38_an 5).2.toks 0)
  spe := fun y α k => rfl
  b := fun x α kn ke => (match (decide (x.2.2.2 < x.2.2.1)) with | true => (if 0 ≤ x.2.2.2 then (match x.1[x.2.2.2.toNat]? with | some c1 => (match c1[0]? with | some x2 => (match x2 with | .v (.int q4 n3) => (if q4 = .i64 then (match F49_d N n3 with | some y5 => (kn (x.1, (i64 (x.2.1 + y5)), x.2.2.1, (i64 (x.2.2.2 + 1)))) | none => none) else none) | _ => none) | none => none) | none => none) else none) | false => (ke x.2.1))
noncomputable abbrev F38_d5 (N : Nat) (x : (List (List AV)) × Int × Int × Int) : Option ((Int)) := (F38_l5 N).L N x
noncomputable def F38_s (N : Nat) : FSpec where
  X := (List (List AV))
  Y := Int
  ash := [[some 1]]
  bsh := []
  S := ⟨[[none]], [], [], [], []⟩
  bm := false
  pat := fun a b => match a, b with
    | [(AV.list 1 a0 none)], [] => some a0
    | _, _ => none
  args := fun x => [(AV.list 1 x none)]
  bs := fun x => []
  ret := fun y => ⟨(AV.v (.int .i64 y)), [], none, [], [], []⟩
  t := fun x α k => (match F38_d5 N (x, 0, (x.length : Int), 0) with | some y6 => (k y6) | none => none)
noncomputable abbrev F38_d (N : Nat) (x : (List (List AV))) : Option (Int) := (F38_s N).d x
theorem F38_par5 (N : Nat) : Par (F38_l5 N).b := by
  intro x α β kn ke kn' ke' r r' h h1 h2
  revert h
  dsimp only [F38_l5]
  (repeat' (first | (with_reducible refine par_ite ?_ ?_) | (with_reducible refine par_both ?_ ?_) | split)) <;> intro h <;> first | exact h1 _ h | exact h2 _ h | (cases h; done)
theorem F38_body5 (N : Nat) (x : (F38_l5 N).X) (α : Type) (kn : AS → Option α) (ke : Out → Option α) : around (tabOf Try.prog) (F38_g N) F38_an (lam N [(5, F38_l5 N)]) 5 (bodyOf (nthLoop 5 (Try.f38.body.getD .skip))) ((F38_l5 N).st x) kn ke = (F38_l5 N).b x α (fun x' => kn ((F38_l5 N).st x')) (fun y => (F38_l5 N).sp y α ke) := by kernel_rfl
theorem F38_pat5 (N : Nat) (s : AS) (x : (F38_l5 N).X) (hc : s = canon (F38_an 5).1 s) (h : (F38_l5 N).p s = some x) : s = (F38_l5 N).st x := by
  dsimp only [F38_l5] at h
  split at h
  · cases h
    exact canon_mk hc ‹_› ‹_› rfl rfl rfl ⟨‹_›, ‹_›, ‹_›, ‹_›, trivial⟩ trivial
  · cases h
theorem F38_loop5 (N : Nat) : ∀ s o, s = canon (F38_an 5).1 s → (lam N [(5, F38_l5 N)]).v 5 s = some o → LoopSem Try.prog (nthLoop 5 (Try.f38.body.getD .skip)) s o :=
  loop_ok (tabOf_ok Try.prog) (gam_ok _) mixed F38_an N [(5, F38_l5 N)] 5 (bodyOf (nthLoop 5 (Try.f38.body.getD .skip))) (nthLoop 5 (Try.f38.body.getD .skip)) (by kernel_rfl) (by
    have e : actOf F38_an (bodyOf (nthLoop 5 (Try.f38.body.getD .skip))) (5 + 1) = [] := by kernel_rfl
    rw [e]
    intro p hp
    cases hp) (F38_l5 N) rfl (fun s x hc h => F38_pat5 N s x hc h) (fun x => rfl) (fun x α kn ke => (F38_body5 N x α kn ke).trans (congrArg ((F38_l5 N).b x α _) (funext fun y => (F38_l5 N).spe y α ke))) (F38_par5 N)
theorem F38_parF (N : Nat) : ParF (F38_s N).t := by
  intro x α β k k' r r' h h1
  revert h
  dsimp only [F38_s]
  (repeat' (first | (with_reducible refine par_ite ?_ ?_) | (with_reducible refine par_both ?_ ?_) | split)) <;> intro h <;> first | exact h1 _ h | (cases h; done)
theorem F38_text (N : Nat) (x : (F38_s N).X) : acall (tabOf Try.prog) (F38_g N) F38_an (lam N [(5, F38_l5 N)]) Try.f38 (F38_s N).S ((F38_s N).args x) ((F38_s N).bs x) = (F38_s N).t x Ret (fun y => some ((F38_s N).ret y)) := by kernel_rfl
theorem F38_pat (N : Nat) (a : List AV) (b : List (List AV)) (x : (F38_s N).X) (h : (F38_s N).pat a b = some x) : a = (F38_s N).args x ∧ b = (F38_s N).bs x := by
  dsimp only [F38_s] at h
  split at h
  · cases h; exact ⟨rfl, rfl⟩
  · cases h
noncomputable def F38_e (N : Nat) : Ent Try.prog := entOf (tabOf_ok Try.prog) (gam_ok _) mixed 38 Try.f38 Try.func38 rfl F38_an (lam N [(5, F38_l5 N)]) (by
    have e : actOf F38_an (Try.f38.body.getD .skip) 0 = [(5, nthLoop 5 (Try.f38.body.getD .skip))] := by kernel_rfl
    rw [e]
    intro p hp
    rcases List.mem_cons.1 hp with rfl | hp
    · exact F38_loop5 N
    cases hp) (F38_s N) (fun _ => ⟨rfl, rfl⟩) (F38_text N) (F38_pat N) (F38_parF N)
/-! ### seismonet/detector.open (function 35) -/
def F35_an : Nat → Keep × Keep := anF [] [(100004, ([4], []))]
noncomputable def F35_g (N : Nat) : GamK := gam (P := Try.prog) [F38_e N]
noncomputable def F35_s (N : Nat) : FSpec where
  X := Int × Int × Int × Int × (List (List AV)) × Int × Int × Int × Int
  Y := Int × Int × Int × Int × (List (List AV)) × Int × Int × Int × Int × Int × Int × (List (List AV))
  ash := [[none, none, none, none, some 1, none, none, none, none]]
  bsh := []
  S := ⟨[[none]], [], [none, none, none, none, some 2000001, none, none, none, none, none, none, some 2000003], [], []⟩
  bm := false
  pat := fun a b => match a, b with
    | [(AV.agg [(AV.v (.int .i64 a0)), (AV.v (.int .i64 a1)), (AV.v (.int .i64 a2)), (AV.v (.int .i64 a3)), (AV.list 1 a4 none), (AV.v (.int .i64 a5)), (AV.v (.int .i64 a6)), (AV.v (.int .i64 a7)), (AV.v (.int .i64 a8))])], [] => some (a0, a1, a2, a3, a4, a5, a6, a7, a8)
    | _, _ => none
  args := fun x => [(AV.agg [(AV.v (.int .i64 x.1)), (AV.v (.int .i64 x.2.1)), (AV.v (.int .i64 x.2.2.1)), (AV.v (.int .i64 x.2.2.2.1)), (AV.list 1 x.2.2.2.2.1 none), (AV.v (.int .i64 x.2.2.2.2.2.1)), (AV.v (.int .i64 x.2.2.2.2.2.2.1)), (AV.v (.int .i64 x.2.2.2.2.2.2.2.1)), (AV.v (.int .i64 x.2.2.2.2.2.2.2.2))])]
  bs := fun x => []
  ret := fun y => ⟨(AV.ptr 0 0), [], some [(AV.v (.int .i64 y.1)), (AV.v (.int .i64 y.2.1)), (AV.v (.int .i64 y.2.2.1)), (AV.v (.int .i64 y.2.2.2.1)), (AV.list 1 y.2.2.2.2.1 (some 3200000256)), (AV.v (.int .i64 y.2.2.2.2.2.1)), (AV.v (.int .i64 y.2.2.2.2.2.2.1)), (AV.v (.int .i64 y.2.2.2.2.2.2.2.1)), (AV.v (.int .i64 y.2.2.2.2.2.2.2.2.1)), (AV.v (.int .i64 y.2.2.2.2.2.2.2.2.2.1)), (AV.v (.int .i64 y.2.2.2.2.2.2.2.2.2.2.1)), (AV.list 3 y.2.2.2.2.2.2.2.2.2.2.2 (some 3200000704))], [], [3200000256, 3200000704], []⟩
  t := fun x α k => (if 0 ≤ (x.2.2.2.2.1.length : Int) ∧ (x.2.2.2.2.1.length : Int) ≤ (i64 ((x.2.2.2.2.1.length : Int) + 512)) ∧ (i64 ((x.2.2.2.2.1.length : Int) + 512)).toNat * 8 ≤ maxBytes then (if (0 + ((x.2.2.2.2.1.length : Int).toNat)) * 1 ≤ (List.replicate (x.2.2.2.2.1.length : Int).toNat (AV.v (.int .i64 0))).length then (if ((x.2.2.2.2.1.length : Int).toNat) * 1 ≤ (splice (List.replicate (x.2.2.2.2.1.length : Int).toNat (AV.v (.int .i64 0))) (0 * 1) ((x.2.2.2.2.1.take (Nat.min x.2.2.2.2.1.length ((x.2.2.2.2.1.length : Int).toNat))).flatten)).length then (if 0 ≤ (if (i64 ((i64 ((x.2.2.2.2.1.length : Int) - x.1)) + 1)) > 0 then (i64 ((i64 ((x.2.2.2.2.1.length : Int) - x.1)) + 1)) else 0) ∧ (if (i64 ((i64 ((x.2.2.2.2.1.length : Int) - x.1)) + 1)) > 0 then (i64 ((i64 ((x.2.2.2.2.1.length : Int) - x.1)) + 1)) else 0) ≤ (chunks ((splice (List.replicate (x.2.2.2.2.1.length : Int).toNat (AV.v (.int .i64 0))) (0 * 1) ((x.2.2.2.2.1.take (Nat.min x.2.2.2.2.1.length ((x.2.2.2.2.1.length : Int).toNat))).flatten)).take (((x.2.2.2.2.1.length : Int).toNat) * 1)) 1 ((x.2.2.2.2.1.length : Int).toNat)).length then (match F38_d N ((chunks ((splice (List.replicate (x.2.2.2.2.1.length : Int).toNat (AV.v (.int .i64 0))) (0 * 1) ((x.2.2.2.2.1.take (Nat.min x.2.2.2.2.1.length ((x.2.2.2.2.1.length : Int).toNat))).flatten)).take (((x.2.2.2.2.1.length : Int).toNat) * 1)) 1 ((x.2.2.2.2.1.length : Int).toNat)).drop (if (i64 ((i64 ((x.2.2.2.2.1.length : Int) - x.1)) + 1)) > 0 then (i64 ((i64 ((x.2.2.2.2.1.length : Int) - x.1)) + 1)) else 0).toNat) with | some y1 => (match F38_d N (chunks ((splice (List.replicate (x.2.2.2.2.1.length : Int).toNat (AV.v (.int .i64 0))) (0 * 1) ((x.2.2.2.2.1.take (Nat.min x.2.2.2.2.1.length ((x.2.2.2.2.1.length : Int).toNat))).flatten)).take (((x.2.2.2.2.1.length : Int).toNat) * 1)) 1 ((x.2.2.2.2.1.length : Int).toNat)) with | some y2 => (k (x.1, x.2.1, x.2.2.1, x.2.2.2.1, (chunks ((splice (List.replicate (x.2.2.2.2.1.length : Int).toNat (AV.v (.int .i64 0))) (0 * 1) ((x.2.2.2.2.1.take (Nat.min x.2.2.2.2.1.length ((x.2.2.2.2.1.length : Int).toNat))).flatten)).take (((x.2.2.2.2.1.length : Int).toNat) * 1)) 1 ((x.2.2.2.2.1.length : Int).toNat)), x.2.2.2.2.2.1, x.2.2.2.2.2.2.1, x.2.2.2.2.2.2.2.1, x.2.2.2.2.2.2.2.2, y1, y2, ([] : List (List AV)))) | none => none) | none => none) else none) else none) else none) else none)
noncomputable abbrev F35_d (N : Nat) (x : Int × Int × Int × Int × (List (List AV)) × Int × Int × Int × Int) : Option (Int × Int × Int × Int × (List (List AV)) × Int × Int × Int × Int × Int × Int × (List (List AV))) := (F35_s N).d x
theorem F35_parF (N : Nat) : ParF (F35_s N).t := by
  intro x α β k k' r r' h h1
  revert h
  dsimp only [F35_s]
  (repeat' (first | (with_reducible refine par_ite ?_ ?_) | (with_reducible refine par_both ?_ ?_) | split)) <;> intro h <;> first | exact h1 _ h | (cases h; done)
theorem F35_text (N : Nat) (x : (F35_s N).X) : acall (tabOf Try.prog) (F35_g N) F35_an (lam N []) Try.f35 (F35_s N).S ((F35_s N).args x) ((F35_s N).bs x) = (F35_s N).t x Ret (fun y => some ((F35_s N).ret y)) := by kernel_rfl
theorem F35_pat (N : Nat) (a : List AV) (b : List (List AV)) (x : (F35_s N).X) (h : (F35_s N).pat a b = some x) : a = (F35_s N).args x ∧ b = (F35_s N).bs x := by
  dsimp only [F35_s] at h
  split at h
  · cases h; exact ⟨rfl, rfl⟩
  · cases h
noncomputable def F35_e (N : Nat) : Ent Try.prog := entOf (tabOf_ok Try.prog) (gam_ok _) mixed 35 Try.f35 Try.func35 rfl F35_an (lam N []) (by
    have e : actOf F35_an (Try.f35.body.getD .skip) 0 = [] := by kernel_rfl
    rw [e]
    intro p hp
    cases hp) (F35_s N) (fun _ => ⟨rfl, rfl⟩) (F35_text N) (F35_pat N) (F35_parF N)
/-! ### seismonet/detector.reaches (function 50) -/
def F50_an : Nat → Keep × Keep := anL []
noncomputable def F50_g (N : Nat) : GamK := gam (P := Try.prog) []
noncomputable def F50_s (N : Nat) : FSpec where
  X := Int × Int × Int × Int × Int × Int × Int
  Y := Bool
  ash := [[none, none, none, none], [none], [none], [none]]
  bsh := []
  S := ⟨[[none]], [], [], [], []⟩
  bm := false
  pat := fun a b => match a, b with
    | [(AV.agg [(AV.v (.int .i64 a0)), (AV.v (.int .i64 a1)), (AV.v (.int .i64 a2)), (AV.v (.int .i64 a3))]), (AV.v (.int .i64 a4)), (AV.v (.int .i64 a5)), (AV.v (.int .i64 a6))], [] => some (a0, a1, a2, a3, a4, a5, a6)
    | _, _ => none
  args := fun x => [(AV.agg [(AV.v (.int .i64 x.1)), (AV.v (.int .i64 x.2.1)), (AV.v (.int .i64 x.2.2.1)), (AV.v (.int .i64 x.2.2.2.1))]), (AV.v (.int .i64 x.2.2.2.2.1)), (AV.v (.int .i64 x.2.2.2.2.2.1)), (AV.v (.int .i64 x.2.2.2.2.2.2))]
  bs := fun x => []
  ret := fun y => ⟨(AV.v (.bool y)), [], none, [], [], []⟩
  t := fun x α k => (match (x.2.2.2.2.2.1 != 0) with | true => (k (decide ((i64 ((i64 (100 * x.2.1)) * x.2.2.2.2.1)) ≥ (i64 ((i64 (x.2.2.2.2.2.2 * x.1)) * x.2.2.2.2.2.1))))) | false => (k false))
noncomputable abbrev F50_d (N : Nat) (x : Int × Int × Int × Int × Int × Int × Int) : Option (Bool) := (F50_s N).d x
theorem F50_parF (N : Nat) : ParF (F50_s N).t := by
  intro x α β k k' r r' h h1
  revert h
  dsimp only [F50_s]
  (repeat' (first | (with_reducible refine par_ite ?_ ?_) | (with_reducible refine par_both ?_ ?_) | split)) <;> intro h <;> first | exact h1 _ h | (cases h; done)
theorem F50_text (N : Nat) (x : (F50_s N).X) : acall (tabOf Try.prog) (F50_g N) F50_an (lam N []) Try.f50 (F50_s N).S ((F50_s N).args x) ((F50_s N).bs x) = (F50_s N).t x Ret (fun y => some ((F50_s N).ret y)) := by kernel_rfl
theorem F50_pat (N : Nat) (a : List AV) (b : List (List AV)) (x : (F50_s N).X) (h : (F50_s N).pat a b = some x) : a = (F50_s N).args x ∧ b = (F50_s N).bs x := by
  dsimp only [F50_s] at h
  split at h
  · cases h; exact ⟨rfl, rfl⟩
  · cases h
noncomputable def F50_e (N : Nat) : Ent Try.prog := entOf (tabOf_ok Try.prog) (gam_ok _) mixed 50 Try.f50 Try.func50 rfl F50_an (lam N []) (by
    have e : actOf F50_an (Try.f50.body.getD .skip) 0 = [] := by kernel_rfl
    rw [e]
    intro p hp
    cases hp) (F50_s N) (fun _ => ⟨rfl, rfl⟩) (F50_text N) (F50_pat N) (F50_parF N)
/-! ### (*seismonet/detector.window).look (function 36) -/
def F36_an : Nat → Keep × Keep := anL [(6, ⟨[0, 1, 4, 47], [], [0, 4], [], [((0, 4), 1), ((0, 11), 3)], [], [], [], true⟩, ⟨[0, 1, 4], [], [0, 4], [], [((0, 4), 1), ((0, 11), 3)], [], [], [], false⟩), (8, ⟨[0, 1, 4], [], [0, 4], [], [((0, 4), 1), ((0, 11), 3)], [], [], [], true⟩, ⟨[0, 1, 4], [], [0, 4], [], [((0, 4), 1), ((0, 11), 3)], [], [], [], false⟩), (9, ⟨[0, 1, 4, 48], [], [0, 4], [], [((0, 4), 1), ((0, 11), 3)], [], [], [], true⟩, ⟨[0, 1, 4], [], [0, 4], [], [((0, 4), 1), ((0, 11), 3)], [], [], [], false⟩), (16, ⟨[0, 1, 4, 140], [], [0, 4], [], [((0, 4), 1), ((0, 11), 3)], [], [], [], true⟩, ⟨[0, 1, 4], [], [0, 4], [], [((0, 4), 1), ((0, 11), 3)], [], [], [], false⟩)]
noncomputable def F36_g (N : Nat) : GamK := gam (P := Try.prog) [F49_e N, F50_e N]
noncomputable def F36_l16 (N : Nat) : LSpec where
  X := Int × Bool × Int × Int × Int × Int × (List (List AV)) × Int × Int × Int × Int × Int × Int × (List (List AV)) × Int × Int × Int × Int
  Y := (Int × Int × Int × Int × Int × (List (List AV)) × Int × Int × Int × Int × Int × Int × (List (List AV)) × Int × Int × Int × Int)
  p := fun s => match s.env.length, s.nin, s.at 0, s.at 1, s.at 4, s.at 140, s.bx 0, s.bx 4 with
    | 227, 1, (AV.ptr 0 0), (AV.v (.int .i64 a0)), (AV.ptr 4 0), (AV.v (.bool a1)), some [(AV.v (.int .i64 a2)), (AV.v (.int .i64 a3)), (AV.v (.int .i64 a4)), (AV.v (.int .i64 a5)), (AV.list 1 a6 (some 6400000256)), (AV.v (.int .i64 a7)), (AV.v (.int .i64 a8)), (AV.v (.int .i64 a9)), (AV.v (.int .i64 a10)), (AV.v (.int .i64 a11)), (AV.v (.int .i64 a12)), (AV.list 3 a13 (some 6400000704))], some [(AV.v (.int .i64 a14)), (AV.v (.int .i64 a15)), (AV.v (.int .i64 a16)), (AV.v (.int .i64 a17))] => some (a0, a1, a2, a3, a4, a5, a6, a7, a8, a9, a10, a11, a12, a13, a14, a15, a16, a17)
    | _, _, _, _, _, _, _, _ => none
  st := fun x => mkS 227 [(0, (AV.ptr 0 0)), (1, (AV.v (.int .i64 x.1))), (4, (AV.ptr 4 0)), (140, (AV.v (.bool x.2.1)))] [(0, [(AV.v (.int .i64 x.2.2.1)), (AV.v (.int .i64 x.2.2.2.1)), (AV.v (.int .i64 x.2.2.2.2.1)), (AV.v (.int .i64 x.2.2.2.2.2.1)), (AV.list 1 x.2.2.2.2.2.2.1 (some 6400000256)), (AV.v (.int .i64 x.2.2.2.2.2.2.2.1)), (AV.v (.int .i64 x.2.2.2.2.2.2.2.2.1)), (AV.v (.int .i64 x.2.2.2.2.2.2.2.2.2.1)), (AV.v (.int .i64 x.2.2.2.2.2.2.2.2.2.2.1)), (AV.v (.int .i64 x.2.2.2.2.2.2.2.2.2.2.2.1)), (AV.v (.int .i64 x.2.2.2.2.2.2.2.2.2.2.2.2.1)), (AV.list 3 x.2.2.2.2.2.2.2.2.2.2.2.2.2.1 (some 6400000704))]), (4, [(AV.v (.int .i64 x.2.2.2.2.2.2.2.2.2.2.2.2.2.2.1)), (AV.v (.int .i64 x.2.2.2.2.2.2.2.2.2.2.2.2.2.2.2.1)), (AV.v (.int .i64 x.2.2.2.2.2.2.2.2.2.2.2.2.2.2.2.2.1)), (AV.v (.int .i64 x.2.2.2.2.2.2.2.2.2.2.2.2.2.2.2.2.2))])] (F36_an 16).1.toks 1
  out := fun y => (.normal, mkS 227 [(0, (AV.ptr 0 0)), (1, (AV.v (.int .i64 y.1))), (4, (AV.ptr 4 0))] [(0, [(AV.v (.int .i64 y.2.1)), (AV.v (.int .i64 y.2.2.1)), (AV.v (.int .i64 y.2.2.2.1)), (AV.v (.int .i64 y.2.2.2.2.1)), (AV.list 1 y.2.2.2.2.2.1 (some 6400000256)), (AV.v (.int .i64 y.2.2.2.2.2.2.1)), (AV.v (.int .i64 y.2.2.2.2.2.2.2.1)), (AV.v (.int .i64 y.2.2.2.2.2.2.2.2.1)), (AV.v (.int .i64 y.2.2.2.2.2.2.2.2.2.1)), (AV.v (.int .i64 y.2.2.2.2.2.2.2.2.2.2.1)), (AV.v (.int .i64 y.2.2.2.2.2.2.2.2.2.2.2.1)), (AV.list 3 y.2.2.2.2.2.2.2.2.2.2.2.2.1 (some 6400000704))]), (4, [(AV.v (.int .i64 y.2.2.2.2.2.2.2.2.2.2.2.2.2.1)), (AV.v (.int .i64 y.2.2.2.2.2.2.2.2.2.2.2.2.2.2.1)), (AV.v (.int .i64 y.2.2.2.2.2.2.2.2.2.2.2.2.2.2.2.1)), (AV.v (.int .i64 y.2.2.2.2.2.2.2.2.2.2.2.2.2.2.2.2))])] (F36_an 16).2.toks 1)
  sp := fun y α k => k (.normal, mkS 227 [(0, (AV.ptr 0 0)), (1, (AV.v (.int .i64 y.1))), (4, (AV.ptr 4 0))] [(0, [(AV.v (.int .i64 y.2.1)), (AV.v (.int .i64 y.2.2.1)), (AV.v (.int .i64 y.2.2.2.1)), (AV.v (.int .i64 y.2.2.2.2.1)), (AV.list 1 y.2.2.2.2.2.1 (some 6400000256)), (AV.v (.int .i64 y.2.2.2.2.2.2.1)), (AV.v (.int .i64 y.2.2.2.2.2.2.2.1)), (AV.v (.int .i64 y.2.2.2.2.2.2.2.2.1)), (AV.v (.int .i64 y.2.2.2.2.2.2.2.2.2.1)), (AV.v (.int .i64 y.2.2.2.2.2.2.2.2.2.2.1)), (AV.v (.int .i64 y.2.2.2.2.2.2.2.2.2.2.2.1)), (AV.list 3 y.2.2.2.2.2.2.2.2.2.2.2.2.1 (some 6400000704))]), (4, [(AV.v (.int .i64 y.2.2.2.2.2.2.2.2.2.2.2.2.2.1)), (AV.v (.int .i64 y.2.2.2.2.2.2.2.2.2.2.2.2.2.2.1)), (AV.v (.int .i64 y.2.2.2.2.2.2.2.2.2.2.2.2.2.2.2.1)), (AV.v (.int .i64 y.2.2.2.2.2.2.2.2.2.2.2.2.2.2.2.2))])] (F36_an 16).2.toks 1)
  spe := fun y α k => rfl
  b := fun x α kn ke => (match x.2.1 with | true => (ke (x.1, x.2.2.1, x.2.2.2.1, x.2.2.2.2.1, x.2.2.2.2.2.1, x.2.2.2.2.2.2.1, x.2.2.2.2.2.2.2.1, x.2.2.2.2.2.2.2.2.1, x.2.2.2.2.2.2.2.2.2.1, (if x.1 > x.2.2.2.2.2.2.2.2.2.2.1 then x.1 else x.2.2.2.2.2.2.2.2.2.2.1), x.2.2.2.2.2.2.2.2.2.2.2.1, x.2.2.2.2.2.2.2.2.2.2.2.2.1, x.2.2.2.2.2.2.2.2.2.2.2.2.2.1, x.2.2.2.2.2.2.2.2.2.2.2.2.2.2.1, x.2.2.2.2.2.2.2.2.2.2.2.2.2.2.2.1, x.2.2.2.2.2.2.2.2.2.2.2.2.2.2.2.2.1, x.2.2.2.2.2.2.2.2.2.2.2.2.2.2.2.2.2)) | false => (ke (x.1, x.2.2.1, x.2.2.2.1, x.2.2.2.2.1, x.2.2.2.2.2.1, x.2.2.2.2.2.2.1, x.2.2.2.2.2.2.2.1, x.2.2.2.2.2.2.2.2.1, x.2.2.2.2.2.2.2.2.2.1, x.2.2.2.2.2.2.2.2.2.2.1, x.2.2.2.2.2.2.2.2.2.2.2.1, x.2.2.2.2.2.2.2.2.2.2.2.2.1, x.2.2.2.2.2.2.2.2.2.2.2.2.2.1, x.2.2.2.2.2.2.2.2.2.2.2.2.2.2.1, x.2.2.2.2.2.2.2.2.2.2.2.2.2.2.2.1, x.2.2.2.2.2.2.2.2.2.2.2.2.2.2.2.2.1, x.2.2.2.2.2.2.2.2.2.2.2.2.2.2.2.2.2)))
noncomputable abbrev F36_d16 (N : Nat) (x : Int × Bool × Int × Int × Int × Int × (List (List AV)) × Int × Int × Int × Int × Int × Int × (List (List AV)) × Int × Int × Int × Int) : Option ((Int × Int × Int × Int × Int × (List (List AV)) × Int × Int × Int × Int × Int × Int × (List (List AV)) × Int × Int × Int × Int)) := (F36_l16 N).L N x
noncomputable def F36_l9 (N : Nat) : LSpec where
  X := Int × Bool × Int × Int × Int × Int × (List (List AV)) × Int × Int × Int × Int × Int × Int × (List (List AV)) × Int × Int × Int × Int
  Y := (Int × Int × Int × Int × Int × (List (List AV)) × Int × Int × Int × Int × Int × Int × (List (List AV)) × Int × Int × Int × Int)
  p := fun s => match s.env.length, s.nin, s.at 0, s.at 1, s.at 4, s.at 48, s.bx 0, s.bx 4 with
    | 227, 1, (AV.ptr 0 0), (AV.v (.int .i64 a0)), (AV.ptr 4 0), (AV.v (.bool a1)), some [(AV.v (.int .i64 a2)), (AV.v (.int .i64 a3)), (AV.v (.int .i64 a4)), (AV.v (.int .i64 a5)), (AV.list 1 a6 (some 6400000256)), (AV.v (.int .i64 a7)), (AV.v (.int .i64 a8)), (AV.v (.int .i64 a9)), (AV.v (.int .i64 a10)), (AV.v (.int .i64 a11)), (AV.v (.int .i64 a12)), (AV.list 3 a13 (some 6400000704))], some [(AV.v (.int .i64 a14)), (AV.v (.int .i64 a15)), (AV.v (.int .i64 a16)), (AV.v (.int .i64 a17))] => some (a0, a1, a2, a3, a4, a5, a6, a7, a8, a9, a10, a11, a12, a13, a14, a15, a16, a17)
    | _, _, _, _, _, _, _, _ => none
  st := fun x => mkS 227 [(0, (AV.ptr 0 0)), (1, (AV.v (.int .i64 x.1))), (4, (AV.ptr 4 0)), (48, (AV.v (.bool x.2.1)))] [(0, [(AV.v (.int .i64 x.2.2.1)), (AV.v (.int .i64 x.2.2.2.1)), (AV.v (.int .i64 x.2.2.2.2.1)), (AV.v (.int .i64 x.2.2.2.2.2.1)), (AV.list 1 x.2.2.2.2.2.2.1 (some 6400000256)), (AV.v (.int .i64 x.2.2.2.2.2.2.2.1)), (AV.v (.int .i64 x.2.2.2.2.2.2.2.2.1)), (AV.v (.int .i64 x.2.2.2.2.2.2.2.2.2.1)), (AV.v (.int .i64 x.2.2.2.2.2.2.2.2.2.2.1)), (AV.v (.int .i64 x.2.2.2.2.2.2.2.2.2.2.2.1)), (AV.v (.int .i64 x.2.2.2.2.2.2.2.2.2.2.2.2.1)), (AV.list 3 x.2.2.2.2.2.2.2.2.2.2.2.2.2.1 (some 6400000704))]), (4, [(AV.v (.int .i64 x.2.2.2.2.2.2.2.2.2.2.2.2.2.2.1)), (AV.v (.int .i64 x.2.2.2.2.2.2.2.2.2.2.2.2.2.2.2.1)), (AV.v (.int .i64 x.2.2.2.2.2.2.2.2.2.2.2.2.2.2.2.2.1)), (AV.v (.int .i64 x.2.2.2.2.2.2.2.2.2.2.2.2.2.2.2.2.2))])] (F36_an 9).1.toks 1
  out := fun y => (.normal, mkS 227 [(0, (AV.ptr 0 0)), (1, (AV.v (.int .i64 y.1))), (4, (AV.ptr 4 0))] [(0, [(AV.v (.int .i64 y.2.1)), (AV.v (.int .i64 y.2.2.1)), (AV.v (.int .i64 y.2.2.2.1)), (AV.v (.int .i64 y.2.2.2.2.1)), (AV.list 1 y.2.2.2.2.2.1 (some 6400000256)), (AV.v (.int .i64 y.2.2.2.2.2.2.1)), (AV.v (.int .i64 y.2.2.2.2.2.2.2.1)), (AV.v (.int .i64 y.2.2.2.2.2.2.2.2.1)), (AV.v (.int .i64 y.2.2.2.2.2.2.2.2.2.1)), (AV.v (.int .i64 y.2.2.2.2.2.2.2.2.2.2.1)), (AV.v (.int .i64 y.2.2.2.2.2.2.2.2.2.2.2.1)), (AV.list 3 y.2.2.2.2.2.2.2.2.2.2.2.2.1 (some 6400000704))]), (4, [(AV.v (.int .i64 y.2.2.2.2.2.2.2.2.2.2.2.2.2.1)), (AV.v (.int .i64 y.2.2.2.2.2.2.2.2.2.2.2.2.2.2.1)), (AV.v (.int .i64 y.2.2.2.2.2.2.2.2.2.2.2.2.2.2.2.1)), (AV.v (.int .i64 y.2.2.2.2.2.2.2.2.2.2.2.2.2.2.2.2))])] (F36_an 9).2.toks 1)
  sp := fun y α k => k (.normal, mkS 227 [(0, (AV.ptr 0 0)), (1, (AV.v (.int .i64 y.1))), (4, (AV.ptr 4 0))] [(0, [(AV.v (.int .i64 y.2.1)), (AV.v (.int .i64 y.2.2.1)), (AV.v (.int .i64 y.2.2.2.1)), (AV.v (.int .i64 y.2.2.2.2.1)), (AV.list 1 y.2.2.2.2.2.1 (some 6400000256)), (AV.v (.int .i64 y.2.2.2.2.2.2.1)), (AV.v (.int .i64 y.2.2.2.2.2.2.2.1)), (AV.v (.int .i64 y.2.2.2.2.2.2.2.2.1)), (AV.v (.int .i64 y.2.2.2.2.2.2.2.2.2.1)), (AV.v (.int .i64 y.2.2.2.2.2.2.2.2.2.2.1)), (AV.v (.int .i64 y.2.2.2.2.2.2.2.2.2.2.2.1)), (AV.list 3 y.2.2.2.2.2.2.2.2.2.2.2.2.1 (some 6400000704))]), (4, [(AV.v (.int .i64 y.2.2.2.2.2.2.2.2.2.2.2.2.2.1)), (AV.v (.int .i64 y.2.2.2.2.2.2.2.2.2.2.2.2.2.2.1)), (AV.v (.int .i64 y.2.2.2.2.2.2.2.2.2.2.2.2.2.2.2.1)), (AV.v (.int .i64 y.2.2.2.2.2.2.2.2.2.2.2.2.2.2.2.2))])] (F36_an 9).2.toks 1)
  spe := fun y α k => rfl
  b := fun x α kn ke => (match x.2.1 with | true => (if (x.2.2.2.2.2.2.2.2.2.2.2.2.2.1.length + [[(AV.v (.int .i64 x.2.2.2.2.2.2.2.2.1)), (AV.v (.int .i64 (i64 (x.2.2.2.2.2.2.2.1 - 1)))), (AV.v (.int .i64 x.2.2.2.2.2.2.2.2.2.2.1))]].length) * 24 ≤ maxBytes then (ke (x.1, x.2.2.1, x.2.2.2.1, x.2.2.2.2.1, x.2.2.2.2.2.1, x.2.2.2.2.2.2.1, x.2.2.2.2.2.2.2.1, (-1), 0, 0, x.2.2.2.2.2.2.2.2.2.2.2.1, x.2.2.2.2.2.2.2.2.2.2.2.2.1, (x.2.2.2.2.2.2.2.2.2.2.2.2.2.1 ++ [[(AV.v (.int .i64 x.2.2.2.2.2.2.2.2.1)), (AV.v (.int .i64 (i64 (x.2.2.2.2.2.2.2.1 - 1)))), (AV.v (.int .i64 x.2.2.2.2.2.2.2.2.2.2.1))]]), x.2.2.2.2.2.2.2.2.2.2.2.2.2.2.1, x.2.2.2.2.2.2.2.2.2.2.2.2.2.2.2.1, x.2.2.2.2.2.2.2.2.2.2.2.2.2.2.2.2.1, x.2.2.2.2.2.2.2.2.2.2.2.2.2.2.2.2.2)) else none) | false => (match (decide (x.2.2.2.2.2.2.2.2.1 < 0)) with | true => (match F50_d N (x.2.2.2.2.2.2.2.2.2.2.2.2.2.2.1, x.2.2.2.2.2.2.2.2.2.2.2.2.2.2.2.1, x.2.2.2.2.2.2.2.2.2.2.2.2.2.2.2.2.1, x.2.2.2.2.2.2.2.2.2.2.2.2.2.2.2.2.2, x.2.2.2.2.2.2.2.2.2.2.2.1, x.2.2.2.2.2.2.2.2.2.2.2.2.1, x.2.2.2.2.2.2.2.2.2.2.2.2.2.2.2.2.1) with | some y5 => (match y5 with | true => (ke (x.1, x.2.2.1, x.2.2.2.1, x.2.2.2.2.1, x.2.2.2.2.2.1, x.2.2.2.2.2.2.1, x.2.2.2.2.2.2.2.1, (i64 (x.2.2.2.2.2.2.2.1 - 1)), (-1), 0, x.2.2.2.2.2.2.2.2.2.2.2.1, x.2.2.2.2.2.2.2.2.2.2.2.2.1, x.2.2.2.2.2.2.2.2.2.2.2.2.2.1, x.2.2.2.2.2.2.2.2.2.2.2.2.2.2.1, x.2.2.2.2.2.2.2.2.2.2.2.2.2.2.2.1, x.2.2.2.2.2.2.2.2.2.2.2.2.2.2.2.2.1, x.2.2.2.2.2.2.2.2.2.2.2.2.2.2.2.2.2)) | false => (ke (x.1, x.2.2.1, x.2.2.2.1, x.2.2.2.2.1, x.2.2.2.2.2.1, x.2.2.2.2.2.2.1, x.2.2.2.2.2.2.2.1, x.2.2.2.2.2.2.2.2.1, x.2.2.2.2.2.2.2.2.2.1, x.2.2.2.2.2.2.2.2.2.2.1, x.2.2.2.2.2.2.2.2.2.2.2.1, x.2.2.2.2.2.2.2.2.2.2.2.2.1, x.2.2.2.2.2.2.2.2.2.2.2.2.2.1, x.2.2.2.2.2.2.2.2.2.2.2.2.2.2.1, x.2.2.2.2.2.2.2.2.2.2.2.2.2.2.2.1, x.2.2.2.2.2.2.2.2.2.2.2.2.2.2.2.2.1, x.2.2.2.2.2.2.2.2.2.2.2.2.2.2.2.2.2))) | none => none) | false => (ke (x.1, x.2.2.1, x.2.2.2.1, x.2.2.2.2.1, x.2.2.2.2.2.1, x.2.2.2.2.2.2.1, x.2.2.2.2.2.2.2.1, x.2.2.2.2.2.2.2.2.1, x.2.2.2.2.2.2.2.2.2.1, x.2.2.2.2.2.2.2.2.2.2.1, x.2.2.2.2.2.2.2.2.2.2.2.1, x.2.2.2.2.2.2.2.2.2.2.2.2.1, x.2.2.2.2.2.2.2.2.2.2.2.2.2.1, x.2.2.2.2.2.2.2.2.2.2.2.2.2.2.1, x.2.2.2.2.2.2.2.2.2.2.2.2.2.2.2.1, x.2.2.2.2.2.2.2.2.2.2.2.2.2.2.2.2.1, x.2.2.2.2.2.2.2.2.2.2.2.2.2.2.2.2.2))))
noncomputable abbrev F36_d9 (N : Nat) (x : Int × Bool × Int × Int × Int × Int × (List (List AV)) × Int × Int × Int × Int × Int × Int × (List (List AV)) × Int × Int × Int × Int) : Option ((Int × Int × Int × Int × Int × (List (List AV)) × Int × Int × Int × Int × Int × Int × (List (List AV)) × Int × Int × Int × Int)) := (F36_l9 N).L N x
noncomputable def F36_l8 (N : Nat) : LSpec where
  X := Int × Int × Int × Int × Int × (List (List AV)) × Int × Int × Int × Int × Int × Int × (List (List AV)) × Int × Int × Int × Int
  Y := (Int × Int × Int × Int × Int × (List (List AV)) × Int × Int × Int × Int × Int × Int × (List (List AV)) × Int × Int × Int × Int)
  p := fun s => match s.env.length, s.nin, s.at 0, s.at 1, s.at 4, s.bx 0, s.bx 4 with
    | 227, 1, (AV.ptr 0 0), (AV.v (.int .i64 a0)), (AV.ptr 4 0), some [(AV.v (.int .i64 a1)), (AV.v (.int .i64 a2)), (AV.v (.int .i64 a3)), (AV.v (.int .i64 a4)), (AV.list 1 a5 (some 6400000256)), (AV.v (.int .i64 a6)), (AV.v (.int .i64 a7)), (AV.v (.int .i64 a8)), (AV.v (.int .i64 a9)), (AV.v (.int .i64 a10)), (AV.v (.int .i64 a11)), (AV.list 3 a12 (some 6400000704))], some [(AV.v (.int .i64 a13)), (AV.v (.int .i64 a14)), (AV.v (.int .i64 a15)), (AV.v (.int .i64 a16))] => some (a0, a1, a2, a3, a4, a5, a6, a7, a8, a9, a10, a11, a12, a13, a14, a15, a16)
    | _, _, _, _, _, _, _ => none
  st := fun x => mkS 227 [(0, (AV.ptr 0 0)), (1, (AV.v (.int .i64 x.1))), (4, (AV.ptr 4 0))] [(0, [(AV.v (.int .i64 x.2.1)), (AV.v (.int .i64 x.2.2.1)), (AV.v (.int .i64 x.2.2.2.1)), (AV.v (.int .i64 x.2.2.2.2.1)), (AV.list 1 x.2.2.2.2.2.1 (some 6400000256)), (AV.v (.int .i64 x.2.2.2.2.2.2.1)), (AV.v (.int .i64 x.2.2.2.2.2.2.2.1)), (AV.v (.int .i64 x.2.2.2.2.2.2.2.2.1)), (AV.v (.int .i64 x.2.2.2.2.2.2.2.2.2.1)), (AV.v (.int .i64 x.2.2.2.2.2.2.2.2.2.2.1)), (AV.v (.int .i64 x.2.2.2.2.2.2.2.2.2.2.2.1)), (AV.list 3 x.2.2.2.2.2.2.2.2.2.2.2.2.1 (some 6400000704))]), (4, [(AV.v (.int .i64 x.2.2.2.2.2.2.2.2.2.2.2.2.2.1)), (AV.v (.int .i64 x.2.2.2.2.2.2.2.2.2.2.2.2.2.2.1)), (AV.v (.int .i64 x.2.2.2.2.2.2.2.2.2.2.2.2.2.2.2.1)), (AV.v (.int .i64 x.2.2.2.2.2.2.2.2.2.2.2.2.2.2.2.2))])] (F36_an 8).1.toks 1
  out := fun y => (.normal, mkS 227 [(0, (AV.ptr 0 0)), (1, (AV.v (.int .i64 y.1))), (4, (AV.ptr 4 0))] [(0, [(AV.v (.int .i64 y.2.1)), (AV.v (.int .i64 y.2.2.1)), (AV.v (.int .i64 y.2.2.2.1)), (AV.v (.int .i64 y.2.2.2.2.1)), (AV.list 1 y.2.2.2.2.2.1 (some 6400000256)), (AV.v (.int .i64 y.2.2.2.2.2.2.1)), (AV.v (.int .i64 y.2.2.2.2.2.2.2.1)), (AV.v (.int .i64 y.2.2.2.2.2.2.2.2.1)), (AV.v (.int .i64 y.2.2.2.2.2.2.2.2.2.1)), (AV.v (.int .i64 y.2.2.2.2.2.2.2.2.2.2.1)), (AV.v (.int .i64 y.2.2.2.2.2.2.2.2.2.2.2.1)), (AV.list 3 y.2.2.2.2.2.2.2.2.2.2.2.2.1 (some 6400000704))]), (4, [(AV.v (.int .i64 y.2.2.2.2.2.2.2.2.2.2.2.2.2.1)), (AV.v (.int .i64 y.2.2.2.2.2.2.2.2.2.2.2.2.2.2.1)), (AV.v (.int .i64 y.2.2.2.2.2.2.2.2.2.2.2.2.2.2.2.1)), (AV.v (.int .i64 y.2.2.2.2.2.2.2.2.2.2.2.2.2.2.2.2))])] (F36_an 8).2.toks 1)
  sp := fun y α k => k (.normal, mkS 227 [(0, (AV.ptr 0 0)), (1, (AV.v (.int .i64 y.1))), (4, (AV.ptr 4 0))] [(0, [(AV.v (.int .i64 y.2.1)), (AV.v (.int .i64 y.2.2.1)), (AV.v (.int .i64 y.2.2.2.1)), (AV.v (.int .i64 y.2.2.2.2.1)), (AV.list 1 y.2.2.2.2.2.1 (some 6400000256)), (AV.v (.int .i64 y.2.2.2.2.2.2.1)), (AV.v (.int .i64 y.2.2.2.2.2.2.2.1)), (AV.v (.int .i64 y.2.2.2.2.2.2.2.2.1)), (AV.v (.int .i64 y.2.2.2.2.2.2.2.2.2.1)), (AV.v (.int .i64 y.2.2.2.2.2.2.2.2.2.2.1)), (AV.v (.int .i64 y.2.2.2.2.2.2.2.2.2.2.2.1)), (AV.list 3 y.2.2.2.2.2.2.2.2.2.2.2.2.1 (some 6400000704))]), (4, [(AV.v (.int .i64 y.2.2.2.2.2.2.2.2.2.2.2.2.2.1)), (AV.v (.int .i64 y.2.2.2.2.2.2.2.2.2.2.2.2.2.2.1)), (AV.v (.int .i64 y.2.2.2.2.2.2.2.2.2.2.2.2.2.2.2.1)), (AV.v (.int .i64 y.2.2.2.2.2.2.2.2.2.2.2.2.2.2.2.2))])] (F36_an 8).2.toks 1)
  spe := fun y α k => rfl
  b := fun x α kn ke => (match (decide (x.2.2.2.2.2.2.2.1 ≥ 0)) with | true => (match F50_d N (x.2.2.2.2.2.2.2.2.2.2.2.2.2.1, x.2.2.2.2.2.2.2.2.2.2.2.2.2.2.1, x.2.2.2.2.2.2.2.2.2.2.2.2.2.2.2.1, x.2.2.2.2.2.2.2.2.2.2.2.2.2.2.2.2, x.2.2.2.2.2.2.2.2.2.2.1, x.2.2.2.2.2.2.2.2.2.2.2.1, x.2.2.2.2.2.2.2.2.2.2.2.2.2.2.2.2) with | some y11 => (match F36_d9 N (x.1, (!y11), x.2.1, x.2.2.1, x.2.2.2.1, x.2.2.2.2.1, x.2.2.2.2.2.1, x.2.2.2.2.2.2.1, x.2.2.2.2.2.2.2.1, x.2.2.2.2.2.2.2.2.1, x.2.2.2.2.2.2.2.2.2.1, x.2.2.2.2.2.2.2.2.2.2.1, x.2.2.2.2.2.2.2.2.2.2.2.1, x.2.2.2.2.2.2.2.2.2.2.2.2.1, x.2.2.2.2.2.2.2.2.2.2.2.2.2.1, x.2.2.2.2.2.2.2.2.2.2.2.2.2.2.1, x.2.2.2.2.2.2.2.2.2.2.2.2.2.2.2.1, x.2.2.2.2.2.2.2.2.2.2.2.2.2.2.2.2) with | some y12 => (ke (y12.1, y12.2.1, y12.2.2.1, y12.2.2.2.1, y12.2.2.2.2.1, y12.2.2.2.2.2.1, y12.2.2.2.2.2.2.1, y12.2.2.2.2.2.2.2.1, y12.2.2.2.2.2.2.2.2.1, y12.2.2.2.2.2.2.2.2.2.1, y12.2.2.2.2.2.2.2.2.2.2.1, y12.2.2.2.2.2.2.2.2.2.2.2.1, y12.2.2.2.2.2.2.2.2.2.2.2.2.1, y12.2.2.2.2.2.2.2.2.2.2.2.2.2.1, y12.2.2.2.2.2.2.2.2.2.2.2.2.2.2.1, y12.2.2.2.2.2.2.2.2.2.2.2.2.2.2.2.1, y12.2.2.2.2.2.2.2.2.2.2.2.2.2.2.2.2)) | none => none) | none => none) | false => (match F36_d9 N (x.1, false, x.2.1, x.2.2.1, x.2.2.2.1, x.2.2.2.2.1, x.2.2.2.2.2.1, x.2.2.2.2.2.2.1, x.2.2.2.2.2.2.2.1, x.2.2.2.2.2.2.2.2.1, x.2.2.2.2.2.2.2.2.2.1, x.2.2.2.2.2.2.2.2.2.2.1, x.2.2.2.2.2.2.2.2.2.2.2.1, x.2.2.2.2.2.2.2.2.2.2.2.2.1, x.2.2.2.2.2.2.2.2.2.2.2.2.2.1, x.2.2.2.2.2.2.2.2.2.2.2.2.2.2.1, x.2.2.2.2.2.2.2.2.2.2.2.2.2.2.2.1, x.2.2.2.2.2.2.2.2.2.2.2.2.2.2.2.2) with | some y13 => (ke (y13.1, y13.2.1, y13.2.2.1, y13.2.2.2.1, y13.2.2.2.2.1, y13.2.2.2.2.2.1, y13.2.2.2.2.2.2.1, y13.2.2.2.2.2.2.2.1, y13.2.2.2.2.2.2.2.2.1, y13.2.2.2.2.2.2.2.2.2.1, y13.2.2.2.2.2.2.2.2.2.2.1, y13.2.2.2.2.2.2.2.2.2.2.2.1, y13.2.2.2.2.2.2.2.2.2.2.2.2.1, y13.2.2.2.2.2.2.2.2.2.2.2.2.2.1, y13.2.2.2.2.2.2.2.2.2.2.2.2.2.2.1, y13.2.2.2.2.2.2.2.2.2.2.2.2.2.2.2.1, y13.2.2.2.2.2.2.2.2.2.2.2.2.2.2.2.2)) | none => none))
noncomputable abbrev F36_d8 (N : Nat) (x : Int × Int × Int × Int × Int × (List (List AV)) × Int × Int × Int × Int × Int × Int × (List (List AV)) × Int × Int × Int × Int) : Option ((Int × Int × Int × Int × Int × (List (List AV)) × Int × Int × Int × Int × Int × Int × (List (List AV)) × Int × Int × Int × Int)) := (F36_l8 N).L N x
noncomputable def F36_l6 (N : Nat) : LSpec where
  X := Int × Bool × Int × Int × Int × Int × (List (List AV)) × Int × Int × Int × Int × Int × Int × (List (List AV)) × Int × Int × Int × Int
  Y := (Int × Int × Int × Int × Int × (List (List AV)) × Int × Int × Int × Int × Int × Int × (List (List AV)) × Int × Int × Int × Int)
  p := fun s => match s.env.length, s.nin, s.at 0, s.at 1, s.at 4, s.at 47, s.bx 0, s.bx 4 with
    | 227, 1, (AV.ptr 0 0), (AV.v (.int .i64 a0)), (AV.ptr 4 0), (AV.v (.bool a1)), some [(AV.v (.int .i64 a2)), (AV.v (.int .i64 a3)), (AV.v (.int .i64 a4)), (AV.v (.int .i64 a5)), (AV.list 1 a6 (some 6400000256)), (AV.v (.int .i64 a7)), (AV.v (.int .i64 a8)), (AV.v (.int .i64 a9)), (AV.v (.int .i64 a10)), (AV.v (.int .i64 a11)), (AV.v (.int .i64 a12)), (AV.list 3 a13 (some 6400000704))], some [(AV.v (.int .i64 a14)), (AV.v (.int .i64 a15)), (AV.v (.int .i64 a16)), (AV.v (.int .i64 a17))] => some (a0, a1, a2, a3, a4, a5, a6, a7, a8, a9, a10, a11, a12, a13, a14, a15, a16, a17)
    | _, _, _, _, _, _, _, _ => none
  st := fun x => mkS 227 [(0, (AV.ptr 0 0)), (1, (AV.v (.int .i64 x.1))), (4, (AV.ptr 4 0)), (47, (AV.v (.bool x.2.1)))] [(0, [(AV.v (.int .i64 x.2.2.1)), (AV.v (.int .i64 x.2.2.2.1)), (AV.v (.int .i64 x.2.2.2.2.1)), (AV.v (.int .i64 x.2.2.2.2.2.1)), (AV.list 1 x.2.2.2.2.2.2.1 (some 6400000256)), (AV.v (.int .i64 x.2.2.2.2.2.2.2.1)), (AV.v (.int .i64 x.2.2.2.2.2.2.2.2.1)), (AV.v (.int .i64 x.2.2.2.2.2.2.2.2.2.1)), (AV.v (.int .i64 x.2.2.2.2.2.2.2.2.2.2.1)), (AV.v (.int .i64 x.2.2.2.2.2.2.2.2.2.2.2.1)), (AV.v (.int .i64 x.2.2.2.2.2.2.2.2.2.2.2.2.1)), (AV.list 3 x.2.2.2.2.2.2.2.2.2.2.2.2.2.1 (some 6400000704))]), (4, [(AV.v (.int .i64 x.2.2.2.2.2.2.2.2.2.2.2.2.2.2.1)), (AV.v (.int .i64 x.2.2.2.2.2.2.2.2.2.2.2.2.2.2.2.1)), (AV.v (.int .i64 x.2.2.2.2.2.2.2.2.2.2.2.2.2.2.2.2.1)), (AV.v (.int .i64 x.2.2.2.2.2.2.2.2.2.2.2.2.2.2.2.2.2))])] (F36_an 6).1.toks 1
  out := fun y => (.normal, mkS 227 [(0, (AV.ptr 0 0)), (1, (AV.v (.int .i64 y.1))), (4, (AV.ptr 4 0))] [(0, [(AV.v (.int .i64 y.2.1)), (AV.v (.int .i64 y.2.2.1)), (AV.v (.int .i64 y.2.2.2.1)), (AV.v (.int .i64 y.2.2.2.2.1)), (AV.list 1 y.2.2.2.2.2.1 (some 6400000256)), (AV.v (.int .i64 y.2.2.2.2.2.2.1)), (AV.v (.int .i64 y.2.2.2.2.2.2.2.1)), (AV.v (.int .i64 y.2.2.2.2.2.2.2.2.1)), (AV.v (.int .i64 y.2.2.2.2.2.2.2.2.2.1)), (AV.v (.int .i64 y.2.2.2.2.2.2.2.2.2.2.1)), (AV.v (.int .i64 y.2.2.2.2.2.2.2.2.2.2.2.1)), (AV.list 3 y.2.2.2.2.2.2.2.2.2.2.2.2.1 (some 6400000704))]), (4, [(AV.v (.int .i64 y.2.2.2.2.2.2.2.2.2.2.2.2.2.1)), (AV.v (.int .i64 y.2.2.2.2.2.2.2.2.2.2.2.2.2.2.1)), (AV.v (.int .i64 y.2.2.2.2.2.2.2.2.2.2.2.2.2.2.2.1)), (AV.v (.int .i64 y.2.2.2.2.2.2.2.2.2.2.2.2.2.2.2.2))])] (F36_an 6).2.toks 1)
  sp := fun y α k => k (.normal, mkS 227 [(0, (AV.ptr 0 0)), (1, (AV.v (.int .i64 y.1))), (4, (AV.ptr 4 0))] [(0, [(AV.v (.int .i64 y.2.1)), (AV.v (.int .i64 y.2.2.1)), (AV.v (.int .i64 y.2.2.2.1)), (AV.v (.int .i64 y.2.2.2.2.1)), (AV.list 1 y.2.2.2.2.2.1 (some 6400000256)), (AV.v (.int .i64 y.2.2.2.2.2.2.1)), (AV.v (.int .i64 y.2.2.2.2.2.2.2.1)), (AV.v (.int .i64 y.2.2.2.2.2.2.2.2.1)), (AV.v (.int .i64 y.2.2.2.2.2.2.2.2.2.1)), (AV.v (.int .i64 y.2.2.2.2.2.2.2.2.2.2.1)), (AV.v (.int .i64 y.2.2.2.2.2.2.2.2.2.2.2.1)), (AV.list 3 y.2.2.2.2.2.2.2.2.2.2.2.2.1 (some 6400000704))]), (4, [(AV.v (.int .i64 y.2.2.2.2.2.2.2.2.2.2.2.2.2.1)), (AV.v (.int .i64 y.2.2.2.2.2.2.2.2.2.2.2.2.2.2.1)), (AV.v (.int .i64 y.2.2.2.2.2.2.2.2.2.2.2.2.2.2.2.1)), (AV.v (.int .i64 y.2.2.2.2.2.2.2.2.2.2.2.2.2.2.2.2))])] (F36_an 6).2.toks 1)
  spe := fun y α k => rfl
  b := fun x α kn ke => (match x.2.1 with | true => (match F36_d8 N (x.1, x.2.2.1, x.2.2.2.1, x.2.2.2.2.1, x.2.2.2.2.2.1, x.2.2.2.2.2.2.1, x.2.2.2.2.2.2.2.1, x.2.2.2.2.2.2.2.2.1, x.2.2.2.2.2.2.2.2.2.1, x.2.2.2.2.2.2.2.2.2.2.1, x.2.2.2.2.2.2.2.2.2.2.2.1, x.2.2.2.2.2.2.2.2.2.2.2.2.1, x.2.2.2.2.2.2.2.2.2.2.2.2.2.1, x.2.2.2.2.2.2.2.2.2.2.2.2.2.2.1, x.2.2.2.2.2.2.2.2.2.2.2.2.2.2.2.1, x.2.2.2.2.2.2.2.2.2.2.2.2.2.2.2.2.1, x.2.2.2.2.2.2.2.2.2.2.2.2.2.2.2.2.2) with | some y16 => (ke (y16.1, y16.2.1, y16.2.2.1, y16.2.2.2.1, y16.2.2.2.2.1, y16.2.2.2.2.2.1, y16.2.2.2.2.2.2.1, y16.2.2.2.2.2.2.2.1, y16.2.2.2.2.2.2.2.2.1, y16.2.2.2.2.2.2.2.2.2.1, y16.2.2.2.2.2.2.2.2.2.2.1, y16.2.2.2.2.2.2.2.2.2.2.2.1, y16.2.2.2.2.2.2.2.2.2.2.2.2.1, y16.2.2.2.2.2.2.2.2.2.2.2.2.2.1, y16.2.2.2.2.2.2.2.2.2.2.2.2.2.2.1, y16.2.2.2.2.2.2.2.2.2.2.2.2.2.2.2.1, y16.2.2.2.2.2.2.2.2.2.2.2.2.2.2.2.2)) | none => none) | false => (ke (x.1, x.2.2.1, x.2.2.2.1, x.2.2.2.2.1, x.2.2.2.2.2.1, x.2.2.2.2.2.2.1, x.2.2.2.2.2.2.2.1, x.2.2.2.2.2.2.2.2.1, x.2.2.2.2.2.2.2.2.2.1, x.2.2.2.2.2.2.2.2.2.2.1, x.2.2.2.2.2.2.2.2.2.2.2.1, x.2.2.2.2.2.2.2.2.2.2.2.2.1, x.2.2.2.2.2.2.2.2.2.2.2.2.2.1, x.2.2.2.2.2.2.2.2.2.2.2.2.2.2.1, x.2.2.2.2.2.2.2.2.2.2.2.2.2.2.2.1, x.2.2.2.2.2.2.2.2.2.2.2.2.2.2.2.2.1, x.2.2.2.2.2.2.2.2.2.2.2.2.2.2.2.2.2)))
noncomputable abbrev F36_d6 (N : Nat) (x : Int × Bool × Int × Int × Int × Int × (List (List AV)) × Int × Int × Int × Int × Int × Int × (List (List AV)) × Int × Int × Int × Int) : Option ((Int × Int × Int × Int × Int × (List (List AV)) × Int × Int × Int × Int × Int × Int × (List (List AV)) × Int × Int × Int × Int)) := (F36_l6 N).L N x
noncomputable def F36_s (N : Nat) : FSpec where
  X := Int × Int × Int × Int × Int × (List (List AV)) × Int × Int × Int × Int × Int × Int × (List (List AV))
  Y := Int × Int × Int × Int × (List (List AV)) × Int × Int × Int × Int × Int × Int × (List (List AV))
  ash := [[none], [none]]
  bsh := [[none, none, none, none, some 2000001, none, none, none, none, none, none, some 2000003]]
  S := ⟨[], [[none, none, none, none, some 2000001, none, none, none, none, none, none, some 2000003]], [], [6400000256, 6400000704], []⟩
  bm := false
  pat := fun a b => match a, b with
    | [(AV.ptr 0 0), (AV.v (.int .i64 a0))], [[(AV.v (.int .i64 a1)), (AV.v (.int .i64 a2)), (AV.v (.int .i64 a3)), (AV.v (.int .i64 a4)), (AV.list 1 a5 (some 6400000256)), (AV.v (.int .i64 a6)), (AV.v (.int .i64 a7)), (AV.v (.int .i64 a8)), (AV.v (.int .i64 a9)), (AV.v (.int .i64 a10)), (AV.v (.int .i64 a11)), (AV.list 3 a12 (some 6400000704))]] => some (a0, a1, a2, a3, a4, a5, a6, a7, a8, a9, a10, a11, a12)
    | _, _ => none
  args := fun x => [(AV.ptr 0 0), (AV.v (.int .i64 x.1))]
  bs := fun x => [[(AV.v (.int .i64 x.2.1)), (AV.v (.int .i64 x.2.2.1)), (AV.v (.int .i64 x.2.2.2.1)), (AV.v (.int .i64 x.2.2.2.2.1)), (AV.list 1 x.2.2.2.2.2.1 (some 6400000256)), (AV.v (.int .i64 x.2.2.2.2.2.2.1)), (AV.v (.int .i64 x.2.2.2.2.2.2.2.1)), (AV.v (.int .i64 x.2.2.2.2.2.2.2.2.1)), (AV.v (.int .i64 x.2.2.2.2.2.2.2.2.2.1)), (AV.v (.int .i64 x.2.2.2.2.2.2.2.2.2.2.1)), (AV.v (.int .i64 x.2.2.2.2.2.2.2.2.2.2.2.1)), (AV.list 3 x.2.2.2.2.2.2.2.2.2.2.2.2 (some 6400000704))]]
  ret := fun y => ⟨(AV.tup []), [[(AV.v (.int .i64 y.1)), (AV.v (.int .i64 y.2.1)), (AV.v (.int .i64 y.2.2.1)), (AV.v (.int .i64 y.2.2.2.1)), (AV.list 1 y.2.2.2.2.1 (some 6400000256)), (AV.v (.int .i64 y.2.2.2.2.2.1)), (AV.v (.int .i64 y.2.2.2.2.2.2.1)), (AV.v (.int .i64 y.2.2.2.2.2.2.2.1)), (AV.v (.int .i64 y.2.2.2.2.2.2.2.2.1)), (AV.v (.int .i64 y.2.2.2.2.2.2.2.2.2.1)), (AV.v (.int .i64 y.2.2.2.2.2.2.2.2.2.2.1)), (AV.list 3 y.2.2.2.2.2.2.2.2.2.2.2 (some 6400000704))]], none, [6400000256, 6400000704], [6400000256, 6400000704], []⟩
  t := fun x α k => (match F49_d N x.1 with | some y1 => (match F36_d6 N (y1, (decide ((i64 (x.2.2.2.2.2.2.1 + 1)) ≥ x.2.2.1)), x.2.1, x.2.2.1, x.2.2.2.1, x.2.2.2.2.1, x.2.2.2.2.2.1, (i64 (x.2.2.2.2.2.2.1 + 1)), x.2.2.2.2.2.2.2.1, x.2.2.2.2.2.2.2.2.1, x.2.2.2.2.2.2.2.2.2.1, (i64 (x.2.2.2.2.2.2.2.2.2.2.1 + y1)), (i64 (x.2.2.2.2.2.2.2.2.2.2.2.1 + y1)), x.2.2.2.2.2.2.2.2.2.2.2.2, x.2.1, x.2.2.1, x.2.2.2.1, x.2.2.2.2.1) with | some y17 => (match F36_d16 N (y17.1, (decide (y17.2.2.2.2.2.2.2.1 ≥ 0)), y17.2.1, y17.2.2.1, y17.2.2.2.1, y17.2.2.2.2.1, y17.2.2.2.2.2.1, y17.2.2.2.2.2.2.1, y17.2.2.2.2.2.2.2.1, y17.2.2.2.2.2.2.2.2.1, y17.2.2.2.2.2.2.2.2.2.1, y17.2.2.2.2.2.2.2.2.2.2.1, y17.2.2.2.2.2.2.2.2.2.2.2.1, y17.2.2.2.2.2.2.2.2.2.2.2.2.1, y17.2.2.2.2.2.2.2.2.2.2.2.2.2.1, y17.2.2.2.2.2.2.2.2.2.2.2.2.2.2.1, y17.2.2.2.2.2.2.2.2.2.2.2.2.2.2.2.1, y17.2.2.2.2.2.2.2.2.2.2.2.2.2.2.2.2) with | some y18 => (if (y18.2.2.2.2.2.1.length + [[(AV.v (.int .i64 y18.1))]].length) * 8 ≤ maxBytes then (match (decide (((y18.2.2.2.2.2.1 ++ [[(AV.v (.int .i64 y18.1))]]).length : Int) ≥ y18.2.2.2.2.2.2.2.2.2.2.2.2.2.1)) with | true => (if 0 ≤ (i64 (((y18.2.2.2.2.2.1 ++ [[(AV.v (.int .i64 y18.1))]]).length : Int) - y18.2.2.2.2.2.2.2.2.2.2.2.2.2.1)) then (match (y18.2.2.2.2.2.1 ++ [[(AV.v (.int .i64 y18.1))]])[(i64 (((y18.2.2.2.2.2.1 ++ [[(AV.v (.int .i64 y18.1))]]).length : Int) - y18.2.2.2.2.2.2.2.2.2.2.2.2.2.1)).toNat]? with | some c19 => (match c19[0]? with | some x20 => (match x20 with | .v (.int q22 n21) => (if q22 = .i64 then (match (((y18.2.2.2.2.2.1 ++ [[(AV.v (.int .i64 y18.1))]]).length : Int) == y18.2.2.2.2.2.2.2.2.2.2.2.2.2.2.1) with | true => (if 0 ≤ (0 : Int) then (match (y18.2.2.2.2.2.1 ++ [[(AV.v (.int .i64 y18.1))]])[(0 : Int).toNat]? with | some c23 => (match c23[0]? with | some x24 => (match x24 with | .v (.int q26 n25) => (if q26 = .i64 then (if 0 ≤ (1 : Int) ∧ (1 : Int) ≤ (y18.2.2.2.2.2.1 ++ [[(AV.v (.int .i64 y18.1))]]).length then (k (y18.2.1, y18.2.2.1, y18.2.2.2.1, y18.2.2.2.2.1, ((y18.2.2.2.2.2.1 ++ [[(AV.v (.int .i64 y18.1))]]).drop (1 : Int).toNat), y18.2.2.2.2.2.2.1, y18.2.2.2.2.2.2.2.1, y18.2.2.2.2.2.2.2.2.1, y18.2.2.2.2.2.2.2.2.2.1, (i64 (y18.2.2.2.2.2.2.2.2.2.2.1 - n21)), (i64 (y18.2.2.2.2.2.2.2.2.2.2.2.1 - n25)), y18.2.2.2.2.2.2.2.2.2.2.2.2.1)) else none) else none) | _ => none) | none => none) | none => none) else none) | false => (k (y18.2.1, y18.2.2.1, y18.2.2.2.1, y18.2.2.2.2.1, (y18.2.2.2.2.2.1 ++ [[(AV.v (.int .i64 y18.1))]]), y18.2.2.2.2.2.2.1, y18.2.2.2.2.2.2.2.1, y18.2.2.2.2.2.2.2.2.1, y18.2.2.2.2.2.2.2.2.2.1, (i64 (y18.2.2.2.2.2.2.2.2.2.2.1 - n21)), y18.2.2.2.2.2.2.2.2.2.2.2.1, y18.2.2.2.2.2.2.2.2.2.2.2.2.1))) else none) | _ => none) | none => none) | none => none) else none) | false => (match (((y18.2.2.2.2.2.1 ++ [[(AV.v (.int .i64 y18.1))]]).length : Int) == y18.2.2.2.2.2.2.2.2.2.2.2.2.2.2.1) with | true => (if 0 ≤ (0 : Int) then (match (y18.2.2.2.2.2.1 ++ [[(AV.v (.int .i64 y18.1))]])[(0 : Int).toNat]? with | some c27 => (match c27[0]? with | some x28 => (match x28 with | .v (.int q30 n29) => (if q30 = .i64 then (if 0 ≤ (1 : Int) ∧ (1 : Int) ≤ (y18.2.2.2.2.2.1 ++ [[(AV.v (.int .i64 y18.1))]]).length then (k (y18.2.1, y18.2.2.1, y18.2.2.2.1, y18.2.2.2.2.1, ((y18.2.2.2.2.2.1 ++ [[(AV.v (.int .i64 y18.1))]]).drop (1 : Int).toNat), y18.2.2.2.2.2.2.1, y18.2.2.2.2.2.2.2.1, y18.2.2.2.2.2.2.2.2.1, y18.2.2.2.2.2.2.2.2.2.1, y18.2.2.2.2.2.2.2.2.2.2.1, (i64 (y18.2.2.2.2.2.2.2.2.2.2.2.1 - n29)), y18.2.2.2.2.2.2.2.2.2.2.2.2.1)) else none) else none) | _ => none) | none => none) | none => none) else none) | false => (k (y18.2.1, y18.2.2.1, y18.2.2.2.1, y18.2.2.2.2.1, (y18.2.2.2.2.2.1 ++ [[(AV.v (.int .i64 y18.1))]]), y18.2.2.2.2.2.2.1, y18.2.2.2.2.2.2.2.1, y18.2.2.2.2.2.2.2.2.1, y18.2.2.2.2.2.2.2.2.2.1, y18.2.2.2.2.2.2.2.2.2.2.1, y18.2.2.2.2.2.2.2.2.2.2.2.1, y18.2.2.2.2.2.2.2.2.2.2.2.2.1)))) else none) | none => none) | none => none) | none => none)
noncomputable abbrev F36_d (N : Nat) (x : Int × Int × Int × Int × Int × (List (List AV)) × Int × Int × Int × Int × Int × Int × (List (List AV))) : Option (Int × Int × Int × Int × (List (List AV)) × Int × Int × Int × Int × Int × Int × (List (List AV))) := (F36_s N).d x
theorem F36_par16 (N : Nat) : Par (F36_l16 N).b := by
  intro x α β kn ke kn' ke' r r' h h1 h2
  revert h
  dsimp only [F36_l16]
  (repeat' (first | (with_reducible refine par_ite ?_ ?_) | (with_reducible refine par_both ?_ ?_) | split)) <;> intro h <;> first | exact h1 _ h | exact h2 _ h | (cases h; done)
theorem F36_body16 (N : Nat) (x : (F36_l16 N).X) (α : Type) (kn : (F36_l16 N).X → Option α) (ke : Out → Option α) : pieceRun (tabOf Try.prog) (F36_g N) F36_an (lam N [(6, F36_l6 N), (8, F36_l8 N), (9, F36_l9 N), (16, F36_l16 N)]) 16 (nthLoop 16 (Try.f36.body.getD .skip)) ((F36_l16 N).st x) ke = (F36_l16 N).b x α kn (fun y => (F36_l16 N).sp y α ke) := by kernel_rfl
theorem F36_pat16 (N : Nat) (s : AS) (x : (F36_l16 N).X) (hc : s = canon (F36_an 16).1 s) (h : (F36_l16 N).p s = some x) : s = (F36_l16 N).st x := by
  dsimp only [F36_l16] at h
  split at h
  · cases h
    exact canon_mk hc ‹_› ‹_› rfl rfl rfl ⟨‹_›, ‹_›, ‹_›, ‹_›, trivial⟩ ⟨‹_›, ‹_›, trivial⟩
  · cases h
theorem F36_loop16 (N : Nat) : ∀ s o, s = canon (F36_an 16).1 s → (lam N [(6, F36_l6 N), (8, F36_l8 N), (9, F36_l9 N), (16, F36_l16 N)]).v 16 s = some o → LoopSem Try.prog (nthLoop 16 (Try.f36.body.getD .skip)) s o :=
  piece_ok (tabOf_ok Try.prog) (gam_ok _) mixed F36_an N [(6, F36_l6 N), (8, F36_l8 N), (9, F36_l9 N), (16, F36_l16 N)] 16 _ (by
    have e : actOf (uncut F36_an 16) (nthLoop 16 (Try.f36.body.getD .skip)) 16 = [] := by kernel_rfl
    rw [e]
    intro p hp
    cases hp) (F36_l16 N) rfl (fun s x hc h => F36_pat16 N s x hc h) (fun x α kn ke => (F36_body16 N x α kn ke).trans (congrArg ((F36_l16 N).b x α _) (funext fun y => (F36_l16 N).spe y α ke))) (F36_par16 N)
theorem F36_par9 (N : Nat) : Par (F36_l9 N).b := by
  intro x α β kn ke kn' ke' r r' h h1 h2
  revert h
  dsimp only [F36_l9]
  (repeat' (first | (with_reducible refine par_ite ?_ ?_) | (with_reducible refine par_both ?_ ?_) | split)) <;> intro h <;> first | exact h1 _ h | exact h2 _ h | (cases h; done)
theorem F36_body9 (N : Nat) (x : (F36_l9 N).X) (α : Type) (kn : (F36_l9 N).X → Option α) (ke : Out → Option α) : pieceRun (tabOf Try.prog) (F36_g N) F36_an (lam N [(6, F36_l6 N), (8, F36_l8 N), (9, F36_l9 N), (16, F36_l16 N)]) 9 (nthLoop 9 (Try.f36.body.getD .skip)) ((F36_l9 N).st x) ke = (F36_l9 N).b x α kn (fun y => (F36_l9 N).sp y α ke) := by kernel_rfl
theorem F36_pat9 (N : Nat) (s : AS) (x : (F36_l9 N).X) (hc : s = canon (F36_an 9).1 s) (h : (F36_l9 N).p s = some x) : s = (F36_l9 N).st x := by
  dsimp only [F36_l9] at h
  split at h
  · cases h
    exact canon_mk hc ‹_› ‹_› rfl rfl rfl ⟨‹_›, ‹_›, ‹_›, ‹_›, trivial⟩ ⟨‹_›, ‹_›, trivial⟩
  · cases h
theorem F36_loop9 (N : Nat) : ∀ s o, s = canon (F36_an 9).1 s → (lam N [(6, F36_l6 N), (8, F36_l8 N), (9, F36_l9 N), (16, F36_l16 N)]).v 9 s = some o → LoopSem Try.prog (nthLoop 9 (Try.f36.body.getD .skip)) s o :=
  piece_ok (tabOf_ok Try.prog) (gam_ok _) mixed F36_an N [(6, F36_l6 N), (8, F36_l8 N), (9, F36_l9 N), (16, F36_l16 N)] 9 _ (by
    have e : actOf (uncut F36_an 9) (nthLoop 9 (Try.f36.body.getD .skip)) 9 = [] := by kernel_rfl
    rw [e]
    intro p hp
    cases hp) (F36_l9 N) rfl (fun s x hc h => F36_pat9 N s x hc h) (fun x α kn ke => (F36_body9 N x α kn ke).trans (congrArg ((F36_l9 N).b x α _) (funext fun y => (F36_l9 N).spe y α ke))) (F36_par9 N)
theorem F36_par8 (N : Nat) : Par (F36_l8 N).b := by
  intro x α β kn ke kn' ke' r r' h h1 h2
  revert h
  dsimp only [F36_l8]
  (repeat' (first | (with_reducible refine par_ite ?_ ?_) | (with_reducible refine par_both ?_ ?_) | split)) <;> intro h <;> first | exact h1 _ h | exact h2 _ h | (cases h; done)
theorem F36_body8 (N : Nat) (x : (F36_l8 N).X) (α : Type) (kn : (F36_l8 N).X → Option α) (ke : Out → Option α) : pieceRun (tabOf Try.prog) (F36_g N) F36_an (lam N [(6, F36_l6 N), (8, F36_l8 N), (9, F36_l9 N), (16, F36_l16 N)]) 8 (nthLoop 8 (Try.f36.body.getD .skip)) ((F36_l8 N).st x) ke = (F36_l8 N).b x α kn (fun y => (F36_l8 N).sp y α ke) := by kernel_rfl
theorem F36_pat8 (N : Nat) (s : AS) (x : (F36_l8 N).X) (hc : s = canon (F36_an 8).1 s) (h : (F36_l8 N).p s = some x) : s = (F36_l8 N).st x := by
  dsimp only [F36_l8] at h
  split at h
  · cases h
    exact canon_mk hc ‹_› ‹_› rfl rfl rfl ⟨‹_›, ‹_›, ‹_›, trivial⟩ ⟨‹_›, ‹_›, trivial⟩
  · cases h
theorem F36_loop8 (N : Nat) : ∀ s o, s = canon (F36_an 8).1 s → (lam N [(6, F36_l6 N), (8, F36_l8 N), (9, F36_l9 N), (16, F36_l16 N)]).v 8 s = some o → LoopSem Try.prog (nthLoop 8 (Try.f36.body.getD .skip)) s o :=
  piece_ok (tabOf_ok Try.prog) (gam_ok _) mixed F36_an N [(6, F36_l6 N), (8, F36_l8 N), (9, F36_l9 N), (16, F36_l16 N)] 8 _ (by
    have e : actOf (uncut F36_an 8) (nthLoop 8 (Try.f36.body.getD .skip)) 8 = [(9, nthLoop 9 (Try.f36.body.getD .skip))] := by kernel_rfl
    rw [e]
    intro p hp
    rcases List.mem_cons.1 hp with rfl | hp
    · exact F36_loop9 N
    cases hp) (F36_l8 N) rfl (fun s x hc h => F36_pat8 N s x hc h) (fun x α kn ke => (F36_body8 N x α kn ke).trans (congrArg ((F36_l8 N).b x α _) (funext fun y => (F36_l8 N).spe y α ke))) (F36_par8 N)
theorem F36_par6 (N : Nat) : Par (F36_l6 N).b := by
  intro x α β kn ke kn' ke' r r' h h1 h2
  revert h
  dsimp only [F36_l6]
  (repeat' (first | (with_reducible refine par_ite ?_ ?_) | (with_reducible refine par_both ?_ ?_) | split)) <;> intro h <;> first | exact h1 _ h | exact h2 _ h | (cases h; done)
theorem F36_body6 (N : Nat) (x : (F36_l6 N).X) (α : Type) (kn : (F36_l6 N).X → Option α) (ke : Out → Option α) : pieceRun (tabOf Try.prog) (F36_g N) F36_an (lam N [(6, F36_l6 N), (8, F36_l8 N), (9, F36_l9 N), (16, F36_l16 N)]) 6 (nthLoop 6 (Try.f36.body.getD .skip)) ((F36_l6 N).st x) ke = (F36_l6 N).b x α kn (fun y => (F36_l6 N).sp y α ke) := by kernel_rfl
theorem F36_pat6 (N : Nat) (s : AS) (x : (F36_l6 N).X) (hc : s = canon (F36_an 6).1 s) (h : (F36_l6 N).p s = some x) : s = (F36_l6 N).st x := by
  dsimp only [F36_l6] at h
  split at h
  · cases h
    exact canon_mk hc ‹_› ‹_› rfl rfl rfl ⟨‹_›, ‹_›, ‹_›, ‹_›, trivial⟩ ⟨‹_›, ‹_›, trivial⟩
  · cases h
theorem F36_loop6 (N : Nat) : ∀ s o, s = canon (F36_an 6).1 s → (lam N [(6, F36_l6 N), (8, F36_l8 N), (9, F36_l9 N), (16, F36_l16 N)]).v 6 s = some o → LoopSem Try.prog (nthLoop 6 (Try.f36.body.getD .skip)) s o :=
  piece_ok (tabOf_ok Try.prog) (gam_ok _) mixed F36_an N [(6, F36_l6 N), (8, F36_l8 N), (9, F36_l9 N), (16, F36_l16 N)] 6 _ (by
    have e : actOf (uncut F36_an 6) (nthLoop 6 (Try.f36.body.getD .skip)) 6 = [(8, nthLoop 8 (Try.f36.body.getD .skip)), (9, nthLoop 9 (Try.f36.body.getD .skip))] := by kernel_rfl
    rw [e]
    intro p hp
    rcases List.mem_cons.1 hp with rfl | hp
    · exact F36_loop8 N
    rcases List.mem_cons.1 hp with rfl | hp
    · exact F36_loop9 N
    cases hp) (F36_l6 N) rfl (fun s x hc h => F36_pat6 N s x hc h) (fun x α kn ke => (F36_body6 N x α kn ke).trans (congrArg ((F36_l6 N).b x α _) (funext fun y => (F36_l6 N).spe y α ke))) (F36_par6 N)
theorem F36_parF (N : Nat) : ParF (F36_s N).t := by
  intro x α β k k' r r' h h1
  revert h
  dsimp only [F36_s]
  (repeat' (first | (with_reducible refine par_ite ?_ ?_) | (with_reducible refine par_both ?_ ?_) | split)) <;> intro h <;> first | exact h1 _ h | (cases h; done)
theorem F36_text (N : Nat) (x : (F36_s N).X) : acall (tabOf Try.prog) (F36_g N) F36_an (lam N [(6, F36_l6 N), (8, F36_l8 N), (9, F36_l9 N), (16, F36_l16 N)]) Try.f36 (F36_s N).S ((F36_s N).args x) ((F36_s N).bs x) = (F36_s N).t x Ret (fun y => some ((F36_s N).ret y)) := by kernel_rfl
theorem F36_pat (N : Nat) (a : List AV) (b : List (List AV)) (x : (F36_s N).X) (h : (F36_s N).pat a b = some x) : a = (F36_s N).args x ∧ b = (F36_s N).bs x := by
  dsimp only [F36_s] at h
  split at h
  · cases h; exact ⟨rfl, rfl⟩
  · cases h
noncomputable def F36_e (N : Nat) : Ent Try.prog := entOf (tabOf_ok Try.prog) (gam_ok _) mixed 36 Try.f36 Try.func36 rfl F36_an (lam N [(6, F36_l6 N), (8, F36_l8 N), (9, F36_l9 N), (16, F36_l16 N)]) (by
    have e : actOf F36_an (Try.f36.body.getD .skip) 0 = [(6, nthLoop 6 (Try.f36.body.getD .skip)), (8, nthLoop 8 (Try.f36.body.getD .skip)), (9, nthLoop 9 (Try.f36.body.getD .skip)), (16, nthLoop 16 (Try.f36.body.getD .skip))] := by kernel_rfl
    rw [e]
    intro p hp
    rcases List.mem_cons.1 hp with rfl | hp
    · exact F36_loop6 N
    rcases List.mem_cons.1 hp with rfl | hp
    · exact F36_loop8 N
    rcases List.mem_cons.1 hp with rfl | hp
    · exact F36_loop9 N
    rcases List.mem_cons.1 hp with rfl | hp
    · exact F36_loop16 N
    cases hp) (F36_s N) (fun _ => ⟨rfl, rfl⟩) (F36_text N) (F36_pat N) (F36_parF N)
/-! ### seismonet/detector.Run (function 13) -/
def F13_an : Nat → Keep × Keep := anL [(17, ⟨[8, 30, 31], [], [28], [(29, 1)], [((28, 4), 1), ((28, 11), 3)], [], [], [], false⟩, ⟨[8], [], [28], [], [((28, 4), 1), ((28, 11), 3)], [], [], [], false⟩)]
noncomputable def F13_g (N : Nat) : GamK := gam (P := Try.prog) [F25_e N, F33_e N, F18_e N, F35_e N, F36_e N]
noncomputable def F13_l17 (N : Nat) : LSpec where
  X := (List (List AV)) × Int × Int × Int × Int × Int × Int × (List (List AV)) × Int × Int × Int × Int × Int × Int × (List (List AV))
  Y := (Int × Int × Int × Int × (List (List AV)) × Int × Int × Int × Int × Int × Int × (List (List AV)))
  p := fun s => match s.env.length, s.nin, s.at 29, s.at 8, s.at 30, s.at 31, s.bx 28 with
    | 70, 0, (AV.list 1 a0 none), (AV.ptr 28 0), (AV.v (.int .i64 a1)), (AV.v (.int .i64 a2)), some [(AV.v (.int .i64 a3)), (AV.v (.int .i64 a4)), (AV.v (.int .i64 a5)), (AV.v (.int .i64 a6)), (AV.list 1 a7 (some 6407340288)), (AV.v (.int .i64 a8)), (AV.v (.int .i64 a9)), (AV.v (.int .i64 a10)), (AV.v (.int .i64 a11)), (AV.v (.int .i64 a12)), (AV.v (.int .i64 a13)), (AV.list 3 a14 (some 6407340736))] => some (a0, a1, a2, a3, a4, a5, a6, a7, a8, a9, a10, a11, a12, a13, a14)
    | _, _, _, _, _, _, _ => none
  st := fun x => mkS 70 [(29, (AV.list 1 x.1 none)), (8, (AV.ptr 28 0)), (30, (AV.v (.int .i64 x.2.1))), (31, (AV.v (.int .i64 x.2.2.1)))] [(28, [(AV.v (.int .i64 x.2.2.2.1)), (AV.v (.int .i64 x.2.2.2.2.1)), (AV.v (.int .i64 x.2.2.2.2.2.1)), (AV.v (.int .i64 x.2.2.2.2.2.2.1)), (AV.list 1 x.2.2.2.2.2.2.2.1 (some 6407340288)), (AV.v (.int .i64 x.2.2.2.2.2.2.2.2.1)), (AV.v (.int .i64 x.2.2.2.2.2.2.2.2.2.1)), (AV.v (.int .i64 x.2.2.2.2.2.2.2.2.2.2.1)), (AV.v (.int .i64 x.2.2.2.2.2.2.2.2.2.2.2.1)), (AV.v (.int .i64 x.2.2.2.2.2.2.2.2.2.2.2.2.1)), (AV.v (.int .i64 x.2.2.2.2.2.2.2.2.2.2.2.2.2.1)), (AV.list 3 x.2.2.2.2.2.2.2.2.2.2.2.2.2.2 (some 6407340736))])] (F13_an 17).1.toks 0
  out := fun y => (.exit 1, mkS 70 [(8, (AV.ptr 28 0))] [(28, [(AV.v (.int .i64 y.1)), (AV.v (.int .i64 y.2.1)), (AV.v (.int .i64 y.2.2.1)), (AV.v (.int .i64 y.2.2.2.1)), (AV.list 1 y.2.2.2.2.1 (some 6407340288)), (AV.v (.int .i64 y.2.2.2.2.2.1)), (AV.v (.int .i64 y.2.2.2.2.2.2.1)), (AV.v (.int .i64 y.2.2.2.2.2.2.2.1)), (AV.v (.int .i64 y.2.2.2.2.2.2.2.2.1)), (AV.v (.int .i64 y.2.2.2.2.2.2.2.2.2.1)), (AV.v (.int .i64 y.2.2.2.2.2.2.2.2.2.2.1)), (AV.list 3 y.2.2.2.2.2.2.2.2.2.2.2 (some 6407340736))])] (F13_an 17).2.toks 0)
  sp := fun y α k => k (.exit 1, mkS 70 [(8, (AV.ptr 28 0))] [(28, [(AV.v (.int .i64 y.1)), (AV.v (.int .i64 y.2.1)), (AV.v (.int .i64 y.2.2.1)), (AV.v (.int .i64 y.2.2.2.1)), (AV.list 1 y.2.2.2.2.1 (some 6407340288)), (AV.v (.int .i64 y.2.2.2.2.2.1)), (AV.v (.int .i64 y.2.2.2.2.2.2.1)), (AV.v (.int .i64 y.2.2.2.2.2.2.2.1)), (AV.v (.int .i64 y.2.2.2.2.2.2.2.2.1)), (AV.v (.int .i64 y.2.2.2.2.2.2.2.2.2.1)), (AV.v (.int .i64 y.2.2.2.2.2.2.2.2.2.2.1)), (AV.list 3 y.2.2.2.2.2.2.2.2.2.2.2 (some 6407340736))])] (F13_an 17).2.toks 0)
  spe := fun y α k => rfl
  b := fun x α kn ke => (match (decide (x.2.2.1 < x.2.1)) with | true => (if 0 ≤ x.2.2.1 then (match x.1[x.2.2.1.toNat]? with | some c10 => (match c10[0]? with | some x11 => (match x11 with | .v (.int q13 n12) => (if q13 = .i64 then (match F36_d N (n12, x.2.2.2.1, x.2.2.2.2.1, x.2.2.2.2.2.1, x.2.2.2.2.2.2.1, x.2.2.2.2.2.2.2.1, x.2.2.2.2.2.2.2.2.1, x.2.2.2.2.2.2.2.2.2.1, x.2.2.2.2.2.2.2.2.2.2.1, x.2.2.2.2.2.2.2.2.2.2.2.1, x.2.2.2.2.2.2.2.2.2.2.2.2.1, x.2.2.2.2.2.2.2.2.2.2.2.2.2.1, x.2.2.2.2.2.2.2.2.2.2.2.2.2.2) with | some y14 => (kn (x.1, x.2.1, (i64 (x.2.2.1 + 1)), y14.1, y14.2.1, y14.2.2.1, y14.2.2.2.1, y14.2.2.2.2.1, y14.2.2.2.2.2.1, y14.2.2.2.2.2.2.1, y14.2.2.2.2.2.2.2.1, y14.2.2.2.2.2.2.2.2.1, y14.2.2.2.2.2.2.2.2.2.1, y14.2.2.2.2.2.2.2.2.2.2.1, y14.2.2.2.2.2.2.2.2.2.2.2)) | none => none) else none) | _ => none) | none => none) | none => none) else none) | false => (ke (x.2.2.2.1, x.2.2.2.2.1, x.2.2.2.2.2.1, x.2.2.2.2.2.2.1, x.2.2.2.2.2.2.2.1, x.2.2.2.2.2.2.2.2.1, x.2.2.2.2.2.2.2.2.2.1, x.2.2.2.2.2.2.2.2.2.2.1, x.2.2.2.2.2.2.2.2.2.2.2.1, x.2.2.2.2.2.2.2.2.2.2.2.2.1, x.2.2.2.2.2.2.2.2.2.2.2.2.2.1, x.2.2.2.2.2.2.2.2.2.2.2.2.2.2)))
noncomputable abbrev F13_d17 (N : Nat) (x : (List (List AV)) × Int × Int × Int × Int × Int × Int × (List (List AV)) × Int × Int × Int × Int × Int × Int × (List (List AV))) : Option ((Int × Int × Int × Int × (List (List AV)) × Int × Int × Int × Int × Int × Int × (List (List AV)))) := (F13_l17 N).L N x
noncomputable def F13_s (N : Nat) : FSpec where
  X := Int × Int × Int × Int × (List (List AV))
  Y := (List (List AV)) × Int
  ash := [[none, none, none, none], [some 1]]
  bsh := []
  S := ⟨[[some 2000003], [none]], [], [], [], []⟩
  bm := false
  pat := fun a b => match a, b with
    | [(AV.agg [(AV.v (.int .i64 a0)), (AV.v (.int .i64 a1)), (AV.v (.int .i64 a2)), (AV.v (.int .i64 a3))]), (AV.list 1 a4 none)], [] => some (a0, a1, a2, a3, a4)
    | _, _ => none
  args := fun x => [(AV.agg [(AV.v (.int .i64 x.1)), (AV.v (.int .i64 x.2.1)), (AV.v (.int .i64 x.2.2.1)), (AV.v (.int .i64 x.2.2.2.1))]), (AV.list 1 x.2.2.2.2 none)]
  bs := fun x => []
  ret := fun y => ⟨(AV.tup [(AV.list 3 y.1 (some 2560000000)), (AV.v (.int .i64 y.2))]), [], none, [], [2560000000], []⟩
  t := fun x α k => (match F25_d N (x.1, x.2.1, x.2.2.1, x.2.2.2.1) with | some y1 => (match (!y1) with | true => (k (([] : List (List AV)), 1)) | false => (match (decide ((x.2.2.2.2.length : Int) > 65536)) with | true => (k (([] : List (List AV)), 8)) | false => (match F33_d N x.2.2.2.2 with | some y2 => (match y2 with | true => (k (([] : List (List AV)), 2)) | false => (match F18_d N (x.1, x.2.1, x.2.2.1, x.2.2.2.1) with | some y3 => (match F35_d N (y3.1, y3.2.1, y3.2.2.1, y3.2.2.2.1, y3.2.2.2.2.1, y3.2.2.2.2.2.1, y3.2.2.2.2.2.2.1, y3.2.2.2.2.2.2.2.1, y3.2.2.2.2.2.2.2.2.1) with | some y4 => (match F13_d17 N (x.2.2.2.2, (x.2.2.2.2.length : Int), 0, y4.1, y4.2.1, y4.2.2.1, y4.2.2.2.1, y4.2.2.2.2.1, y4.2.2.2.2.2.1, y4.2.2.2.2.2.2.1, y4.2.2.2.2.2.2.2.1, y4.2.2.2.2.2.2.2.2.1, y4.2.2.2.2.2.2.2.2.2.1, y4.2.2.2.2.2.2.2.2.2.2.1, y4.2.2.2.2.2.2.2.2.2.2.2) with | some y15 => (match (decide (y15.2.2.2.2.2.2.1 ≥ 0)) with | true => (if (y15.2.2.2.2.2.2.2.2.2.2.2.length + [[(AV.v (.int .i64 y15.2.2.2.2.2.2.1)), (AV.v (.int .i64 y15.2.2.2.2.2.2.2.1)), (AV.v (.int .i64 y15.2.2.2.2.2.2.2.2.1))]].length) * 24 ≤ maxBytes then (match (decide (((y15.2.2.2.2.2.2.2.2.2.2.2 ++ [[(AV.v (.int .i64 y15.2.2.2.2.2.2.1)), (AV.v (.int .i64 y15.2.2.2.2.2.2.2.1)), (AV.v (.int .i64 y15.2.2.2.2.2.2.2.2.1))]]).length : Int) > 1024)) with | true => (k (([] : List (List AV)), 8)) | false => (k ((y15.2.2.2.2.2.2.2.2.2.2.2 ++ [[(AV.v (.int .i64 y15.2.2.2.2.2.2.1)), (AV.v (.int .i64 y15.2.2.2.2.2.2.2.1)), (AV.v (.int .i64 y15.2.2.2.2.2.2.2.2.1))]]), 0))) else none) | false => (match (decide ((y15.2.2.2.2.2.2.2.2.2.2.2.length : Int) > 1024)) with | true => (k (([] : List (List AV)), 8)) | false => (k (y15.2.2.2.2.2.2.2.2.2.2.2, 0)))) | none => none) | none => none) | none => none)) | none => none))) | none => none)
noncomputable abbrev F13_d (N : Nat) (x : Int × Int × Int × Int × (List (List AV))) : Option ((List (List AV)) × Int) := (F13_s N).d x
theorem F13_par17 (N : Nat) : Par (F13_l17 N).b := by
  intro x α β kn ke kn' ke' r r' h h1 h2
  revert h
  dsimp only [F13_l17]
  (repeat' (first | (with_reducible refine par_ite ?_ ?_) | (with_reducible refine par_both ?_ ?_) | split)) <;> intro h <;> first | exact h1 _ h | exact h2 _ h | (cases h; done)
theorem F13_body17 (N : Nat) (x : (F13_l17 N).X) (α : Type) (kn : AS → Option α) (ke : Out → Option α) : around (tabOf Try.prog) (F13_g N) F13_an (lam N [(17, F13_l17 N)]) 17 (bodyOf (nthLoop 17 (Try.f13.body.getD .skip))) ((F13_l17 N).st x) kn ke = (F13_l17 N).b x α (fun x' => kn ((F13_l17 N).st x')) (fun y => (F13_l17 N).sp y α ke) := by kernel_rfl
theorem F13_pat17 (N : Nat) (s : AS) (x : (F13_l17 N).X) (hc : s = canon (F13_an 17).1 s) (h : (F13_l17 N).p s = some x) : s = (F13_l17 N).st x := by
  dsimp only [F13_l17] at h
  split at h
  · cases h
    exact canon_mk hc ‹_› ‹_› rfl rfl rfl ⟨‹_›, ‹_›, ‹_›, ‹_›, trivial⟩ ⟨‹_›, trivial⟩
  · cases h
theorem F13_loop17 (N : Nat) : ∀ s o, s = canon (F13_an 17).1 s → (lam N [(17, F13_l17 N)]).v 17 s = some o → LoopSem Try.prog (nthLoop 17 (Try.f13.body.getD .skip)) s o :=
  loop_ok (tabOf_ok Try.prog) (gam_ok _) mixed F13_an N [(17, F13_l17 N)] 17 (bodyOf (nthLoop 17 (Try.f13.body.getD .skip))) (nthLoop 17 (Try.f13.body.getD .skip)) (by kernel_rfl) (by
    have e : actOf F13_an (bodyOf (nthLoop 17 (Try.f13.body.getD .skip))) (17 + 1) = [] := by kernel_rfl
    rw [e]
    intro p hp
    cases hp) (F13_l17 N) rfl (fun s x hc h => F13_pat17 N s x hc h) (fun x => rfl) (fun x α kn ke => (F13_body17 N x α kn ke).trans (congrArg ((F13_l17 N).b x α _) (funext fun y => (F13_l17 N).spe y α ke))) (F13_par17 N)
theorem F13_parF (N : Nat) : ParF (F13_s N).t := by
  intro x α β k k' r r' h h1
  revert h
  dsimp only [F13_s]
  (repeat' (first | (with_reducible refine par_ite ?_ ?_) | (with_reducible refine par_both ?_ ?_) | split)) <;> intro h <;> first | exact h1 _ h | (cases h; done)
theorem F13_text (N : Nat) (x : (F13_s N).X) : acall (tabOf Try.prog) (F13_g N) F13_an (lam N [(17, F13_l17 N)]) Try.f13 (F13_s N).S ((F13_s N).args x) ((F13_s N).bs x) = (F13_s N).t x Ret (fun y => some ((F13_s N).ret y)) := by kernel_rfl
theorem F13_pat (N : Nat) (a : List AV) (b : List (List AV)) (x : (F13_s N).X) (h : (F13_s N).pat a b = some x) : a = (F13_s N).args x ∧ b = (F13_s N).bs x := by
  dsimp only [F13_s] at h
  split at h
  · cases h; exact ⟨rfl, rfl⟩
  · cases h
noncomputable def F13_e (N : Nat) : Ent Try.prog := entOf (tabOf_ok Try.prog) (gam_ok _) mixed 13 Try.f13 Try.func13 rfl F13_an (lam N [(17, F13_l17 N)]) (by
    have e : actOf F13_an (Try.f13.body.getD .skip) 0 = [(17, nthLoop 17 (Try.f13.body.getD .skip))] := by kernel_rfl
    rw [e]
    intro p hp
    rcases List.mem_cons.1 hp with rfl | hp
    · exact F13_loop17 N
    cases hp) (F13_s N) (fun _ => ⟨rfl, rfl⟩) (F13_text N) (F13_pat N) (F13_parF N)
/-! ### seismonet/seismonetlaw22.sane (function 9) -/
def F9_an : Nat → Keep × Keep := anL []
noncomputable def F9_g (N : Nat) : GamK := gam (P := Try.prog) [F13_e N, F25_e N]
noncomputable def F9_s (N : Nat) : FSpec where
  X := Unit
  Y := Bool
  ash := []
  bsh := []
  S := ⟨[[none]], [], [], [], []⟩
  bm := false
  pat := fun a b => match a, b with
    | [], [] => some ()
    | _, _ => none
  args := fun x => []
  bs := fun x => []
  ret := fun y => ⟨(AV.v (.bool y)), [], none, [], [], []⟩
  t := fun x α k => (match F13_d N (1, 4, 200, 100, [[(AV.v (.int .i64 1))], [(AV.v (.int .i64 1))], [(AV.v (.int .i64 1))], [(AV.v (.int .i64 1))], [(AV.v (.int .i64 9))], [(AV.v (.int .i64 9))], [(AV.v (.int .i64 1))], [(AV.v (.int .i64 1))]]) with | some y1 => (match (y1.2 == 0) with | true => (match ((y1.1.length : Int) == 1) with | true => (if 0 ≤ (0 : Int) then (match y1.1[(0 : Int).toNat]? with | some c2 => (match c2[0]? with | some x3 => (match x3 with | .v (.int q5 n4) => (if q5 = .i64 then (match c2[1]? with | some x6 => (match x6 with | .v (.int q8 n7) => (if q8 = .i64 then (match c2[2]? with | some x9 => (match x9 with | .v (.int q11 n10) => (if q11 = .i64 then (match ((n4 == 4) && ((n7 == 6) && ((n10 == 9) && true))) with | true => (match F25_d N (1, 4, 200, 100) with | some y12 => (k y12) | none => none) | false => (k false)) else none) | _ => none) | none => none) else none) | _ => none) | none => none) else none) | _ => none) | none => none) | none => none) else none) | false => (k false)) | false => (k false)) | none => none)
noncomputable abbrev F9_d (N : Nat) (x : Unit) : Option (Bool) := (F9_s N).d x
theorem F9_parF (N : Nat) : ParF (F9_s N).t := by
  intro x α β k k' r r' h h1
  revert h
  dsimp only [F9_s]
  (repeat' (first | (with_reducible refine par_ite ?_ ?_) | (with_reducible refine par_both ?_ ?_) | split)) <;> intro h <;> first | exact h1 _ h | (cases h; done)
theorem F9_text (N : Nat) (x : (F9_s N).X) : acall (tabOf Try.prog) (F9_g N) F9_an (lam N []) Try.f9 (F9_s N).S ((F9_s N).args x) ((F9_s N).bs x) = (F9_s N).t x Ret (fun y => some ((F9_s N).ret y)) := by kernel_rfl
theorem F9_pat (N : Nat) (a : List AV) (b : List (List AV)) (x : (F9_s N).X) (h : (F9_s N).pat a b = some x) : a = (F9_s N).args x ∧ b = (F9_s N).bs x := by
  dsimp only [F9_s] at h
  split at h
  · cases h; exact ⟨rfl, rfl⟩
  · cases h
noncomputable def F9_e (N : Nat) : Ent Try.prog := entOf (tabOf_ok Try.prog) (gam_ok _) mixed 9 Try.f9 Try.func9 rfl F9_an (lam N []) (by
    have e : actOf F9_an (Try.f9.body.getD .skip) 0 = [] := by kernel_rfl
    rw [e]
    intro p hp
    cases hp) (F9_s N) (fun _ => ⟨rfl, rfl⟩) (F9_text N) (F9_pat N) (F9_parF N)
/-! ### seismonet/seismonetmade.Roll (function 10) -/
def F10_an : Nat → Keep × Keep := anL []
noncomputable def F10_g (N : Nat) : GamK := gam (P := Try.prog) []
noncomputable def F10_s (N : Nat) : FSpec where
  X := (List (List AV))
  Y := (List (List AV)) × Int
  ash := [[some 1]]
  bsh := []
  S := ⟨[[none]], [], [some 1, none], [], []⟩
  bm := false
  pat := fun a b => match a, b with
    | [(AV.list 1 a0 none)], [] => some a0
    | _, _ => none
  args := fun x => [(AV.list 1 x none)]
  bs := fun x => []
  ret := fun y => ⟨(AV.ptr 0 0), [], some [(AV.list 1 y.1 none), (AV.v (.int .i64 y.2))], [], [], []⟩
  t := fun x α k => (k (x, 0))
noncomputable abbrev F10_d (N : Nat) (x : (List (List AV))) : Option ((List (List AV)) × Int) := (F10_s N).d x
theorem F10_parF (N : Nat) : ParF (F10_s N).t := by
  intro x α β k k' r r' h h1
  revert h
  dsimp only [F10_s]
  (repeat' (first | (with_reducible refine par_ite ?_ ?_) | (with_reducible refine par_both ?_ ?_) | split)) <;> intro h <;> first | exact h1 _ h | (cases h; done)
theorem F10_text (N : Nat) (x : (F10_s N).X) : acall (tabOf Try.prog) (F10_g N) F10_an (lam N []) Try.f10 (F10_s N).S ((F10_s N).args x) ((F10_s N).bs x) = (F10_s N).t x Ret (fun y => some ((F10_s N).ret y)) := by kernel_rfl
theorem F10_pat (N : Nat) (a : List AV) (b : List (List AV)) (x : (F10_s N).X) (h : (F10_s N).pat a b = some x) : a = (F10_s N).args x ∧ b = (F10_s N).bs x := by
  dsimp only [F10_s] at h
  split at h
  · cases h; exact ⟨rfl, rfl⟩
  · cases h
noncomputable def F10_e (N : Nat) : Ent Try.prog := entOf (tabOf_ok Try.prog) (gam_ok _) mixed 10 Try.f10 Try.func10 rfl F10_an (lam N []) (by
    have e : actOf F10_an (Try.f10.body.getD .skip) 0 = [] := by kernel_rfl
    rw [e]
    intro p hp
    cases hp) (F10_s N) (fun _ => ⟨rfl, rfl⟩) (F10_text N) (F10_pat N) (F10_parF N)
/-! ### (*seismonet/seismonetmade.Dice).Next (function 19) -/
def F19_an : Nat → Keep × Keep := anL []
noncomputable def F19_g (N : Nat) : GamK := gam (P := Try.prog) []
noncomputable def F19_s (N : Nat) : FSpec where
  X := Int × (List (List AV)) × Int
  Y := Int × (List (List AV)) × Int
  ash := [[none], [none]]
  bsh := [[some 1, none]]
  S := ⟨[[none]], [[some 1, none]], [], [], []⟩
  bm := false
  pat := fun a b => match a, b with
    | [(AV.ptr 0 0), (AV.v (.int .i64 a0))], [[(AV.list 1 a1 none), (AV.v (.int .i64 a2))]] => some (a0, a1, a2)
    | _, _ => none
  args := fun x => [(AV.ptr 0 0), (AV.v (.int .i64 x.1))]
  bs := fun x => [[(AV.list 1 x.2.1 none), (AV.v (.int .i64 x.2.2))]]
  ret := fun y => ⟨(AV.v (.int .i64 y.1)), [[(AV.list 1 y.2.1 none), (AV.v (.int .i64 y.2.2))]], none, [], [], []⟩
  t := fun x α k => (match (decide (x.2.2 ≥ (x.2.1.length : Int))) with | true => (k (0, x.2.1, x.2.2)) | false => (match (decide (x.1 < 1)) with | true => (k (0, x.2.1, x.2.2)) | false => (if 0 ≤ x.2.2 then (match x.2.1[x.2.2.toNat]? with | some c1 => (match c1[0]? with | some x2 => (match x2 with | .v (.int q4 n3) => (if q4 = .i64 then (if x.1 = 0 then none else (match (decide ((n3.tmod x.1) < 0)) with | true => (k ((i64 ((n3.tmod x.1) + x.1)), x.2.1, (i64 (x.2.2 + 1)))) | false => (k ((n3.tmod x.1), x.2.1, (i64 (x.2.2 + 1)))))) else none) | _ => none) | none => none) | none => none) else none)))
noncomputable abbrev F19_d (N : Nat) (x : Int × (List (List AV)) × Int) : Option (Int × (List (List AV)) × Int) := (F19_s N).d x
theorem F19_parF (N : Nat) : ParF (F19_s N).t := by
  intro x α β k k' r r' h h1
  revert h
  dsimp only [F19_s]
  (repeat' (first | (with_reducible refine par_ite ?_ ?_) | (with_reducible refine par_both ?_ ?_) | split)) <;> intro h <;> first | exact h1 _ h | (cases h; done)
theorem F19_text (N : Nat) (x : (F19_s N).X) : acall (tabOf Try.prog) (F19_g N) F19_an (lam N []) Try.f19 (F19_s N).S ((F19_s N).args x) ((F19_s N).bs x) = (F19_s N).t x Ret (fun y => some ((F19_s N).ret y)) := by kernel_rfl
theorem F19_pat (N : Nat) (a : List AV) (b : List (List AV)) (x : (F19_s N).X) (h : (F19_s N).pat a b = some x) : a = (F19_s N).args x ∧ b = (F19_s N).bs x := by
  dsimp only [F19_s] at h
  split at h
  · cases h; exact ⟨rfl, rfl⟩
  · cases h
noncomputable def F19_e (N : Nat) : Ent Try.prog := entOf (tabOf_ok Try.prog) (gam_ok _) mixed 19 Try.f19 Try.func19 rfl F19_an (lam N []) (by
    have e : actOf F19_an (Try.f19.body.getD .skip) 0 = [] := by kernel_rfl
    rw [e]
    intro p hp
    cases hp) (F19_s N) (fun _ => ⟨rfl, rfl⟩) (F19_text N) (F19_pat N) (F19_parF N)
/-! ### (*seismonet/seismonetmade.Dice).Pick (function 23) -/
def F23_an : Nat → Keep × Keep := anL []
noncomputable def F23_g (N : Nat) : GamK := gam (P := Try.prog) [F19_e N]
noncomputable def F23_s (N : Nat) : FSpec where
  X := (List (List AV)) × (List (List AV)) × Int
  Y := Int × (List (List AV)) × Int
  ash := [[none], [some 1]]
  bsh := [[some 1, none]]
  S := ⟨[[none]], [[some 1, none]], [], [], []⟩
  bm := false
  pat := fun a b => match a, b with
    | [(AV.ptr 0 0), (AV.list 1 a0 none)], [[(AV.list 1 a1 none), (AV.v (.int .i64 a2))]] => some (a0, a1, a2)
    | _, _ => none
  args := fun x => [(AV.ptr 0 0), (AV.list 1 x.1 none)]
  bs := fun x => [[(AV.list 1 x.2.1 none), (AV.v (.int .i64 x.2.2))]]
  ret := fun y => ⟨(AV.v (.int .i64 y.1)), [[(AV.list 1 y.2.1 none), (AV.v (.int .i64 y.2.2))]], none, [], [], []⟩
  t := fun x α k => (match F19_d N ((x.1.length : Int), x.2.1, x.2.2) with | some y1 => (if 0 ≤ y1.1 then (match x.1[y1.1.toNat]? with | some c2 => (match c2[0]? with | some x3 => (match x3 with | .v (.int q5 n4) => (if q5 = .i64 then (k (n4, y1.2.1, y1.2.2)) else none) | _ => none) | none => none) | none => none) else none) | none => none)
noncomputable abbrev F23_d (N : Nat) (x : (List (List AV)) × (List (List AV)) × Int) : Option (Int × (List (List AV)) × Int) := (F23_s N).d x
theorem F23_parF (N : Nat) : ParF (F23_s N).t := by
  intro x α β k k' r r' h h1
  revert h
  dsimp only [F23_s]
  (repeat' (first | (with_reducible refine par_ite ?_ ?_) | (with_reducible refine par_both ?_ ?_) | split)) <;> intro h <;> first | exact h1 _ h | (cases h; done)
theorem F23_text (N : Nat) (x : (F23_s N).X) : acall (tabOf Try.prog) (F23_g N) F23_an (lam N []) Try.f23 (F23_s N).S ((F23_s N).args x) ((F23_s N).bs x) = (F23_s N).t x Ret (fun y => some ((F23_s N).ret y)) := by kernel_rfl
theorem F23_pat (N : Nat) (a : List AV) (b : List (List AV)) (x : (F23_s N).X) (h : (F23_s N).pat a b = some x) : a = (F23_s N).args x ∧ b = (F23_s N).bs x := by
  dsimp only [F23_s] at h
  split at h
  · cases h; exact ⟨rfl, rfl⟩
  · cases h
noncomputable def F23_e (N : Nat) : Ent Try.prog := entOf (tabOf_ok Try.prog) (gam_ok _) mixed 23 Try.f23 Try.func23 rfl F23_an (lam N []) (by
    have e : actOf F23_an (Try.f23.body.getD .skip) 0 = [] := by kernel_rfl
    rw [e]
    intro p hp
    cases hp) (F23_s N) (fun _ => ⟨rfl, rfl⟩) (F23_text N) (F23_pat N) (F23_parF N)
/-! ### (*seismonet/seismonetmade.Dice).Detector (function 11) -/
def F11_an : Nat → Keep × Keep := anL []
noncomputable def F11_g (N : Nat) : GamK := gam (P := Try.prog) [F19_e N, F23_e N]
noncomputable def F11_s (N : Nat) : FSpec where
  X := (List (List AV)) × Int
  Y := Int × Int × Int × Int × (List (List AV)) × Int
  ash := [[none]]
  bsh := [[some 1, none]]
  S := ⟨[[none, none, none, none]], [[some 1, none]], [], [], []⟩
  bm := false
  pat := fun a b => match a, b with
    | [(AV.ptr 0 0)], [[(AV.list 1 a0 none), (AV.v (.int .i64 a1))]] => some (a0, a1)
    | _, _ => none
  args := fun x => [(AV.ptr 0 0)]
  bs := fun x => [[(AV.list 1 x.1 none), (AV.v (.int .i64 x.2))]]
  ret := fun y => ⟨(AV.agg [(AV.v (.int .i64 y.1)), (AV.v (.int .i64 y.2.1)), (AV.v (.int .i64 y.2.2.1)), (AV.v (.int .i64 y.2.2.2.1))]), [[(AV.list 1 y.2.2.2.2.1 none), (AV.v (.int .i64 y.2.2.2.2.2))]], none, [], [], []⟩
  t := fun x α k => (match F19_d N (3, x.1, x.2) with | some y1 => (match F23_d N ([[(AV.v (.int .i64 50))], [(AV.v (.int .i64 100))], [(AV.v (.int .i64 120))]], y1.2.1, y1.2.2) with | some y2 => (match F19_d N (6, y2.2.1, y2.2.2) with | some y3 => (match F23_d N ([[(AV.v (.int .i64 0))], [(AV.v (.int .i64 50))], [(AV.v (.int .i64 100))]], y3.2.1, y3.2.2) with | some y4 => (k ((i64 (1 + y1.1)), (i64 ((i64 ((i64 (1 + y1.1)) + 1)) + y3.1)), (i64 (y2.1 + y4.1)), y2.1, y4.2.1, y4.2.2)) | none => none) | none => none) | none => none) | none => none)
noncomputable abbrev F11_d (N : Nat) (x : (List (List AV)) × Int) : Option (Int × Int × Int × Int × (List (List AV)) × Int) := (F11_s N).d x
theorem F11_parF (N : Nat) : ParF (F11_s N).t := by
  intro x α β k k' r r' h h1
  revert h
  dsimp only [F11_s]
  (repeat' (first | (with_reducible refine par_ite ?_ ?_) | (with_reducible refine par_both ?_ ?_) | split)) <;> intro h <;> first | exact h1 _ h | (cases h; done)
theorem F11_text (N : Nat) (x : (F11_s N).X) : acall (tabOf Try.prog) (F11_g N) F11_an (lam N []) Try.f11 (F11_s N).S ((F11_s N).args x) ((F11_s N).bs x) = (F11_s N).t x Ret (fun y => some ((F11_s N).ret y)) := by kernel_rfl
theorem F11_pat (N : Nat) (a : List AV) (b : List (List AV)) (x : (F11_s N).X) (h : (F11_s N).pat a b = some x) : a = (F11_s N).args x ∧ b = (F11_s N).bs x := by
  dsimp only [F11_s] at h
  split at h
  · cases h; exact ⟨rfl, rfl⟩
  · cases h
noncomputable def F11_e (N : Nat) : Ent Try.prog := entOf (tabOf_ok Try.prog) (gam_ok _) mixed 11 Try.f11 Try.func11 rfl F11_an (lam N []) (by
    have e : actOf F11_an (Try.f11.body.getD .skip) 0 = [] := by kernel_rfl
    rw [e]
    intro p hp
    cases hp) (F11_s N) (fun _ => ⟨rfl, rfl⟩) (F11_text N) (F11_pat N) (F11_parF N)
/-! ### (*seismonet/seismonetmade.Dice).Wave (function 12) -/
def F12_an : Nat → Keep × Keep := anL [(6, ⟨[0, 6, 7], [(5, 1)], [0], [], [], [], [], [], false⟩, ⟨[], [(5, 1)], [0], [], [], [], [], [], false⟩)]
noncomputable def F12_g (N : Nat) : GamK := gam (P := Try.prog) [F19_e N]
noncomputable def F12_l6 (N : Nat) : LSpec where
  X := (List (List AV)) × Int × Int × (List (List AV)) × Int
  Y := ((List (List AV)) × (List (List AV)) × Int)
  p := fun s => match s.env.length, s.nin, s.at 5, s.at 0, s.at 6, s.at 7, s.bx 0 with
    | 47, 1, (AV.list 1 a0 (some 1280000320)), (AV.ptr 0 0), (AV.v (.int .i64 a1)), (AV.v (.int .i64 a2)), some [(AV.list 1 a3 none), (AV.v (.int .i64 a4))] => some (a0, a1, a2, a3, a4)
    | _, _, _, _, _, _, _ => none
  st := fun x => mkS 47 [(5, (AV.list 1 x.1 (some 1280000320))), (0, (AV.ptr 0 0)), (6, (AV.v (.int .i64 x.2.1))), (7, (AV.v (.int .i64 x.2.2.1)))] [(0, [(AV.list 1 x.2.2.2.1 none), (AV.v (.int .i64 x.2.2.2.2))])] (F12_an 6).1.toks 1
  out := fun y => (.exit 0, mkS 47 [(5, (AV.list 1 y.1 (some 1280000320)))] [(0, [(AV.list 1 y.2.1 none), (AV.v (.int .i64 y.2.2))])] (F12_an 6).2.toks 1)
  sp := fun y α k => k (.exit 0, mkS 47 [(5, (AV.list 1 y.1 (some 1280000320)))] [(0, [(AV.list 1 y.2.1 none), (AV.v (.int .i64 y.2.2))])] (F12_an 6).2.toks 1)
  spe := fun y α k => rfl
  b := fun x α kn ke => (match (decide (x.2.2.1 > 0)) with | true => (match (x.2.1 == 0) with | true => (match F19_d N (7, x.2.2.2.1, x.2.2.2.2) with | some y13 => (match (y13.1 == 0) with | true => (match F19_d N (6, y13.2.1, y13.2.2) with | some y14 => (match F19_d N (5, y14.2.1, y14.2.2) with | some y15 => (match (decide ((i64 (1 + y14.1)) > 0)) with | true => (match F19_d N (60, y15.2.1, y15.2.2) with | some y16 => (match F19_d N (2, y16.2.1, y16.2.2) with | some y17 => (if (x.1.length + [[(AV.v (.int .i64 (i64 ((i64 (y16.1 + 20)) * (i64 (1 - (i64 (2 * y17.1))))))))]].length) * 8 ≤ maxBytes then (kn ((x.1 ++ [[(AV.v (.int .i64 (i64 ((i64 (y16.1 + 20)) * (i64 (1 - (i64 (2 * y17.1))))))))]]), (i64 ((i64 (1 + y14.1)) - 1)), (i64 (x.2.2.1 - 1)), y17.2.1, y17.2.2)) else none) | none => none) | none => none) | false => (if (x.1.length + [[(AV.v (.int .i64 (i64 (y15.1 - 2))))]].length) * 8 ≤ maxBytes then (kn ((x.1 ++ [[(AV.v (.int .i64 (i64 (y15.1 - 2))))]]), (i64 (1 + y14.1)), (i64 (x.2.2.1 - 1)), y15.2.1, y15.2.2)) else none)) | none => none) | none => none) | false => (match F19_d N (5, y13.2.1, y13.2.2) with | some y18 => (match (decide (x.2.1 > 0)) with | true => (match F19_d N (60, y18.2.1, y18.2.2) with | some y19 => (match F19_d N (2, y19.2.1, y19.2.2) with | some y20 => (if (x.1.length + [[(AV.v (.int .i64 (i64 ((i64 (y19.1 + 20)) * (i64 (1 - (i64 (2 * y20.1))))))))]].length) * 8 ≤ maxBytes then (kn ((x.1 ++ [[(AV.v (.int .i64 (i64 ((i64 (y19.1 + 20)) * (i64 (1 - (i64 (2 * y20.1))))))))]]), (i64 (x.2.1 - 1)), (i64 (x.2.2.1 - 1)), y20.2.1, y20.2.2)) else none) | none => none) | none => none) | false => (if (x.1.length + [[(AV.v (.int .i64 (i64 (y18.1 - 2))))]].length) * 8 ≤ maxBytes then (kn ((x.1 ++ [[(AV.v (.int .i64 (i64 (y18.1 - 2))))]]), x.2.1, (i64 (x.2.2.1 - 1)), y18.2.1, y18.2.2)) else none)) | none => none)) | none => none) | false => (match F19_d N (5, x.2.2.2.1, x.2.2.2.2) with | some y21 => (match (decide (x.2.1 > 0)) with | true => (match F19_d N (60, y21.2.1, y21.2.2) with | some y22 => (match F19_d N (2, y22.2.1, y22.2.2) with | some y23 => (if (x.1.length + [[(AV.v (.int .i64 (i64 ((i64 (y22.1 + 20)) * (i64 (1 - (i64 (2 * y23.1))))))))]].length) * 8 ≤ maxBytes then (kn ((x.1 ++ [[(AV.v (.int .i64 (i64 ((i64 (y22.1 + 20)) * (i64 (1 - (i64 (2 * y23.1))))))))]]), (i64 (x.2.1 - 1)), (i64 (x.2.2.1 - 1)), y23.2.1, y23.2.2)) else none) | none => none) | none => none) | false => (if (x.1.length + [[(AV.v (.int .i64 (i64 (y21.1 - 2))))]].length) * 8 ≤ maxBytes then (kn ((x.1 ++ [[(AV.v (.int .i64 (i64 (y21.1 - 2))))]]), x.2.1, (i64 (x.2.2.1 - 1)), y21.2.1, y21.2.2)) else none)) | none => none)) | false => (ke (x.1, x.2.2.2.1, x.2.2.2.2)))
noncomputable abbrev F12_d6 (N : Nat) (x : (List (List AV)) × Int × Int × (List (List AV)) × Int) : Option (((List (List AV)) × (List (List AV)) × Int)) := (F12_l6 N).L N x
noncomputable def F12_s (N : Nat) : FSpec where
  X := Int × (List (List AV)) × Int
  Y := (List (List AV)) × (List (List AV)) × Int
  ash := [[none], [none]]
  bsh := [[some 1, none]]
  S := ⟨[[some 2000001]], [[some 1, none]], [], [], []⟩
  bm := false
  pat := fun a b => match a, b with
    | [(AV.ptr 0 0), (AV.v (.int .i64 a0))], [[(AV.list 1 a1 none), (AV.v (.int .i64 a2))]] => some (a0, a1, a2)
    | _, _ => none
  args := fun x => [(AV.ptr 0 0), (AV.v (.int .i64 x.1))]
  bs := fun x => [[(AV.list 1 x.2.1 none), (AV.v (.int .i64 x.2.2))]]
  ret := fun y => ⟨(AV.list 1 y.1 (some 2560000000)), [[(AV.list 1 y.2.1 none), (AV.v (.int .i64 y.2.2))]], none, [], [2560000000], []⟩
  t := fun x α k => (match F19_d N (x.1, x.2.1, x.2.2) with | some y1 => (match F12_d6 N (([] : List (List AV)), 0, (i64 (1 + y1.1)), y1.2.1, y1.2.2) with | some y24 => (k (y24.1, y24.2.1, y24.2.2)) | none => none) | none => none)
noncomputable abbrev F12_d (N : Nat) (x : Int × (List (List AV)) × Int) : Option ((List (List AV)) × (List (List AV)) × Int) := (F12_s N).d x
theorem F12_par6 (N : Nat) : Par (F12_l6 N).b := by
  intro x α β kn ke kn' ke' r r' h h1 h2
  revert h
  dsimp only [F12_l6]
  (repeat' (first | (with_reducible refine par_ite ?_ ?_) | (with_reducible refine par_both ?_ ?_) | split)) <;> intro h <;> first | exact h1 _ h | exact h2 _ h | (cases h; done)
theorem F12_body6 (N : Nat) (x : (F12_l6 N).X) (α : Type) (kn : AS → Option α) (ke : Out → Option α) : around (tabOf Try.prog) (F12_g N) F12_an (lam N [(6, F12_l6 N)]) 6 (bodyOf (nthLoop 6 (Try.f12.body.getD .skip))) ((F12_l6 N).st x) kn ke = (F12_l6 N).b x α (fun x' => kn ((F12_l6 N).st x')) (fun y => (F12_l6 N).sp y α ke) := by kernel_rfl
theorem F12_pat6 (N : Nat) (s : AS) (x : (F12_l6 N).X) (hc : s = canon (F12_an 6).1 s) (h : (F12_l6 N).p s = some x) : s = (F12_l6 N).st x := by
  dsimp only [F12_l6] at h
  split at h
  · cases h
    exact canon_mk hc ‹_› ‹_› rfl rfl rfl ⟨‹_›, ‹_›, ‹_›, ‹_›, trivial⟩ ⟨‹_›, trivial⟩
  · cases h
theorem F12_loop6 (N : Nat) : ∀ s o, s = canon (F12_an 6).1 s → (lam N [(6, F12_l6 N)]).v 6 s = some o → LoopSem Try.prog (nthLoop 6 (Try.f12.body.getD .skip)) s o :=
  loop_ok (tabOf_ok Try.prog) (gam_ok _) mixed F12_an N [(6, F12_l6 N)] 6 (bodyOf (nthLoop 6 (Try.f12.body.getD .skip))) (nthLoop 6 (Try.f12.body.getD .skip)) (by kernel_rfl) (by
    have e : actOf F12_an (bodyOf (nthLoop 6 (Try.f12.body.getD .skip))) (6 + 1) = [] := by kernel_rfl
    rw [e]
    intro p hp
    cases hp) (F12_l6 N) rfl (fun s x hc h => F12_pat6 N s x hc h) (fun x => rfl) (fun x α kn ke => (F12_body6 N x α kn ke).trans (congrArg ((F12_l6 N).b x α _) (funext fun y => (F12_l6 N).spe y α ke))) (F12_par6 N)
theorem F12_parF (N : Nat) : ParF (F12_s N).t := by
  intro x α β k k' r r' h h1
  revert h
  dsimp only [F12_s]
  (repeat' (first | (with_reducible refine par_ite ?_ ?_) | (with_reducible refine par_both ?_ ?_) | split)) <;> intro h <;> first | exact h1 _ h | (cases h; done)
theorem F12_text (N : Nat) (x : (F12_s N).X) : acall (tabOf Try.prog) (F12_g N) F12_an (lam N [(6, F12_l6 N)]) Try.f12 (F12_s N).S ((F12_s N).args x) ((F12_s N).bs x) = (F12_s N).t x Ret (fun y => some ((F12_s N).ret y)) := by kernel_rfl
theorem F12_pat (N : Nat) (a : List AV) (b : List (List AV)) (x : (F12_s N).X) (h : (F12_s N).pat a b = some x) : a = (F12_s N).args x ∧ b = (F12_s N).bs x := by
  dsimp only [F12_s] at h
  split at h
  · cases h; exact ⟨rfl, rfl⟩
  · cases h
noncomputable def F12_e (N : Nat) : Ent Try.prog := entOf (tabOf_ok Try.prog) (gam_ok _) mixed 12 Try.f12 Try.func12 rfl F12_an (lam N [(6, F12_l6 N)]) (by
    have e : actOf F12_an (Try.f12.body.getD .skip) 0 = [(6, nthLoop 6 (Try.f12.body.getD .skip))] := by kernel_rfl
    rw [e]
    intro p hp
    rcases List.mem_cons.1 hp with rfl | hp
    · exact F12_loop6 N
    cases hp) (F12_s N) (fun _ => ⟨rfl, rfl⟩) (F12_text N) (F12_pat N) (F12_parF N)
/-! ### seismonet/seismonetlaw22.DetectorPrefix$1 (function 14) -/
def F14_an : Nat → Keep × Keep := anL [(5, ⟨[1, 9, 10], [(5, 3)], [], [(8, 3)], [], [], [], [], false⟩, ⟨[], [(5, 3)], [], [], [], [], [], [], false⟩)]
noncomputable def F14_g (N : Nat) : GamK := gam (P := Try.prog) []
noncomputable def F14_l5 (N : Nat) : LSpec where
  X := (List (List AV)) × (List (List AV)) × Int × Int × Int
  Y := ((List (List AV)))
  p := fun s => match s.env.length, s.nin, s.at 5, s.at 8, s.at 1, s.at 9, s.at 10 with
    | 37, 0, (AV.list 3 a0 (some 1280000320)), (AV.list 3 a1 none), (AV.v (.int .i64 a2)), (AV.v (.int .i64 a3)), (AV.v (.int .i64 a4)) => some (a0, a1, a2, a3, a4)
    | _, _, _, _, _, _, _ => none
  st := fun x => mkS 37 [(5, (AV.list 3 x.1 (some 1280000320))), (8, (AV.list 3 x.2.1 none)), (1, (AV.v (.int .i64 x.2.2.1))), (9, (AV.v (.int .i64 x.2.2.2.1))), (10, (AV.v (.int .i64 x.2.2.2.2)))] [] (F14_an 5).1.toks 0
  out := fun y => (.exit 0, mkS 37 [(5, (AV.list 3 y (some 1280000320)))] [] (F14_an 5).2.toks 0)
  sp := fun y α k => k (.exit 0, mkS 37 [(5, (AV.list 3 y (some 1280000320)))] [] (F14_an 5).2.toks 0)
  spe := fun y α k => rfl
  b := fun x α kn ke => (match (decide (x.2.2.2.2 < x.2.2.2.1)) with | true => (if 0 ≤ x.2.2.2.2 then (match x.2.1[x.2.2.2.2.toNat]? with | some c1 => (match c1[0]? with | some x2 => (match x2 with | .v (.int q4 n3) => (if q4 = .i64 then (match c1[1]? with | some x5 => (match x5 with | .v (.int q7 n6) => (if q7 = .i64 then (match c1[2]? with | some x8 => (match x8 with | .v (.int q10 n9) => (if q10 = .i64 then (match (decide (n3 ≥ x.2.2.1)) with | true => (match (decide (n6 ≥ 0)) with | true => (if (x.1.length + [[(AV.v (.int .i64 (i64 (n3 - x.2.2.1)))), (AV.v (.int .i64 (i64 (n6 - x.2.2.1)))), (AV.v (.int .i64 n9))]].length) * 24 ≤ maxBytes then (kn ((x.1 ++ [[(AV.v (.int .i64 (i64 (n3 - x.2.2.1)))), (AV.v (.int .i64 (i64 (n6 - x.2.2.1)))), (AV.v (.int .i64 n9))]]), x.2.1, x.2.2.1, x.2.2.2.1, (i64 (x.2.2.2.2 + 1)))) else none) | false => (if (x.1.length + [[(AV.v (.int .i64 (i64 (n3 - x.2.2.1)))), (AV.v (.int .i64 n6)), (AV.v (.int .i64 n9))]].length) * 24 ≤ maxBytes then (kn ((x.1 ++ [[(AV.v (.int .i64 (i64 (n3 - x.2.2.1)))), (AV.v (.int .i64 n6)), (AV.v (.int .i64 n9))]]), x.2.1, x.2.2.1, x.2.2.2.1, (i64 (x.2.2.2.2 + 1)))) else none)) | false => (kn (x.1, x.2.1, x.2.2.1, x.2.2.2.1, (i64 (x.2.2.2.2 + 1))))) else none) | _ => none) | none => none) else none) | _ => none) | none => none) else none) | _ => none) | none => none) | none => none) else none) | false => (ke x.1))
noncomputable abbrev F14_d5 (N : Nat) (x : (List (List AV)) × (List (List AV)) × Int × Int × Int) : Option (((List (List AV)))) := (F14_l5 N).L N x
noncomputable def F14_s (N : Nat) : FSpec where
  X := (List (List AV)) × Int
  Y := (List (List AV))
  ash := [[some 3], [none]]
  bsh := []
  S := ⟨[[some 2000003]], [], [], [], []⟩
  bm := false
  pat := fun a b => match a, b with
    | [(AV.list 3 a0 none), (AV.v (.int .i64 a1))], [] => some (a0, a1)
    | _, _ => none
  args := fun x => [(AV.list 3 x.1 none), (AV.v (.int .i64 x.2))]
  bs := fun x => []
  ret := fun y => ⟨(AV.list 3 y (some 2560000000)), [], none, [], [2560000000], []⟩
  t := fun x α k => (match F14_d5 N (([] : List (List AV)), x.1, x.2, (x.1.length : Int), 0) with | some y11 => (k y11) | none => none)
noncomputable abbrev F14_d (N : Nat) (x : (List (List AV)) × Int) : Option ((List (List AV))) := (F14_s N).d x
theorem F14_par5 (N : Nat) : Par (F14_l5 N).b := by
  intro x α β kn ke kn' ke' r r' h h1 h2
  revert h
  dsimp only [F14_l5]
  (repeat' (first | (with_reducible refine par_ite ?_ ?_) | (with_reducible refine par_both ?_ ?_) | split)) <;> intro h <;> first | exact h1 _ h | exact h2 _ h | (cases h; done)
theorem F14_body5 (N : Nat) (x : (F14_l5 N).X) (α : Type) (kn : AS → Option α) (ke : Out → Option α) : around (tabOf Try.prog) (F14_g N) F14_an (lam N [(5, F14_l5 N)]) 5 (bodyOf (nthLoop 5 (Try.f14.body.getD .skip))) ((F14_l5 N).st x) kn ke = (F14_l5 N).b x α (fun x' => kn ((F14_l5 N).st x')) (fun y => (F14_l5 N).sp y α ke) := by kernel_rfl
theorem F14_pat5 (N : Nat) (s : AS) (x : (F14_l5 N).X) (hc : s = canon (F14_an 5).1 s) (h : (F14_l5 N).p s = some x) : s = (F14_l5 N).st x := by
  dsimp only [F14_l5] at h
  split at h
  · cases h
    exact canon_mk hc ‹_› ‹_› rfl rfl rfl ⟨‹_›, ‹_›, ‹_›, ‹_›, ‹_›, trivial⟩ trivial
  · cases h
theorem F14_loop5 (N : Nat) : ∀ s o, s = canon (F14_an 5).1 s → (lam N [(5, F14_l5 N)]).v 5 s = some o → LoopSem Try.prog (nthLoop 5 (Try.f14.body.getD .skip)) s o :=
  loop_ok (tabOf_ok Try.prog) (gam_ok _) mixed F14_an N [(5, F14_l5 N)] 5 (bodyOf (nthLoop 5 (Try.f14.body.getD .skip))) (nthLoop 5 (Try.f14.body.getD .skip)) (by kernel_rfl) (by
    have e : actOf F14_an (bodyOf (nthLoop 5 (Try.f14.body.getD .skip))) (5 + 1) = [] := by kernel_rfl
    rw [e]
    intro p hp
    cases hp) (F14_l5 N) rfl (fun s x hc h => F14_pat5 N s x hc h) (fun x => rfl) (fun x α kn ke => (F14_body5 N x α kn ke).trans (congrArg ((F14_l5 N).b x α _) (funext fun y => (F14_l5 N).spe y α ke))) (F14_par5 N)
theorem F14_parF (N : Nat) : ParF (F14_s N).t := by
  intro x α β k k' r r' h h1
  revert h
  dsimp only [F14_s]
  (repeat' (first | (with_reducible refine par_ite ?_ ?_) | (with_reducible refine par_both ?_ ?_) | split)) <;> intro h <;> first | exact h1 _ h | (cases h; done)
theorem F14_text (N : Nat) (x : (F14_s N).X) : acall (tabOf Try.prog) (F14_g N) F14_an (lam N [(5, F14_l5 N)]) Try.f14 (F14_s N).S ((F14_s N).args x) ((F14_s N).bs x) = (F14_s N).t x Ret (fun y => some ((F14_s N).ret y)) := by kernel_rfl
theorem F14_pat (N : Nat) (a : List AV) (b : List (List AV)) (x : (F14_s N).X) (h : (F14_s N).pat a b = some x) : a = (F14_s N).args x ∧ b = (F14_s N).bs x := by
  dsimp only [F14_s] at h
  split at h
  · cases h; exact ⟨rfl, rfl⟩
  · cases h
noncomputable def F14_e (N : Nat) : Ent Try.prog := entOf (tabOf_ok Try.prog) (gam_ok _) mixed 14 Try.f14 Try.func14 rfl F14_an (lam N [(5, F14_l5 N)]) (by
    have e : actOf F14_an (Try.f14.body.getD .skip) 0 = [(5, nthLoop 5 (Try.f14.body.getD .skip))] := by kernel_rfl
    rw [e]
    intro p hp
    rcases List.mem_cons.1 hp with rfl | hp
    · exact F14_loop5 N
    cases hp) (F14_s N) (fun _ => ⟨rfl, rfl⟩) (F14_text N) (F14_pat N) (F14_parF N)
/-! ### seismonet/seismonetref22.Same (function 15) -/
def F15_an : Nat → Keep × Keep := anL [(8, ⟨[5], [], [], [(0, 3), (1, 3)], [], [], [], [], false⟩, ⟨[4], [], [], [], [], [], [], [], false⟩)]
noncomputable def F15_g (N : Nat) : GamK := gam (P := Try.prog) []
noncomputable def F15_l8 (N : Nat) : LSpec where
  X := (List (List AV)) × (List (List AV)) × Int
  Y := (Bool) ⊕ (Unit)
  p := fun s => match s.env.length, s.nin, s.at 0, s.at 1, s.at 5 with
    | 26, 0, (AV.list 3 a0 none), (AV.list 3 a1 none), (AV.v (.int .i64 a2)) => some (a0, a1, a2)
    | _, _, _, _, _ => none
  st := fun x => mkS 26 [(0, (AV.list 3 x.1 none)), (1, (AV.list 3 x.2.1 none)), (5, (AV.v (.int .i64 x.2.2)))] [] (F15_an 8).1.toks 0
  out := fun y => match y with
    | .inl y => (.ret, mkS 26 [(4, (AV.v (.bool y)))] [] (F15_an 8).2.toks 0)
    | .inr y => (.exit 0, mkS 26 [] [] (F15_an 8).2.toks 0)
  sp := fun y α k => match y with
    | .inl y => k (.ret, mkS 26 [(4, (AV.v (.bool y)))] [] (F15_an 8).2.toks 0)
    | .inr y => k (.exit 0, mkS 26 [] [] (F15_an 8).2.toks 0)
  spe := fun y α k => by rcases y with _ | _ <;> rfl
  b := fun x α kn ke => (match (decide (x.2.2 < (x.1.length : Int))) with | true => (if 0 ≤ x.2.2 then (match x.1[x.2.2.toNat]? with | some c1 => (match c1[0]? with | some x2 => (match x2 with | .v (.int q4 n3) => (if q4 = .i64 then (match c1[1]? with | some x5 => (match x5 with | .v (.int q7 n6) => (if q7 = .i64 then (match c1[2]? with | some x8 => (match x8 with | .v (.int q10 n9) => (if q10 = .i64 then (if 0 ≤ x.2.2 then (match x.2.1[x.2.2.toNat]? with | some c11 => (match c11[0]? with | some x12 => (match x12 with | .v (.int q14 n13) => (if q14 = .i64 then (match c11[1]? with | some x15 => (match x15 with | .v (.int q17 n16) => (if q17 = .i64 then (match c11[2]? with | some x18 => (match x18 with | .v (.int q20 n19) => (if q20 = .i64 then (match (!((n3 == n13) && ((n6 == n16) && ((n9 == n19) && true)))) with | true => (ke (.inl false)) | false => (kn (x.1, x.2.1, (i64 (x.2.2 + 1))))) else none) | _ => none) | none => none) else none) | _ => none) | none => none) else none) | _ => none) | none => none) | none => none) else none) else none) | _ => none) | none => none) else none) | _ => none) | none => none) else none) | _ => none) | none => none) | none => none) else none) | false => (ke (.inr ())))
noncomputable abbrev F15_d8 (N : Nat) (x : (List (List AV)) × (List (List AV)) × Int) : Option ((Bool) ⊕ (Unit)) := (F15_l8 N).L N x
noncomputable def F15_s (N : Nat) : FSpec where
  X := (List (List AV)) × (List (List AV))
  Y := Bool
  ash := [[some 3], [some 3]]
  bsh := []
  S := ⟨[[none]], [], [], [], []⟩
  bm := false
  pat := fun a b => match a, b with
    | [(AV.list 3 a0 none), (AV.list 3 a1 none)], [] => some (a0, a1)
    | _, _ => none
  args := fun x => [(AV.list 3 x.1 none), (AV.list 3 x.2 none)]
  bs := fun x => []
  ret := fun y => ⟨(AV.v (.bool y)), [], none, [], [], []⟩
  t := fun x α k => (match ((x.1.length : Int) != (x.2.length : Int)) with | true => (k false) | false => (match F15_d8 N (x.1, x.2, 0) with | some y21 => (match y21 with | .inl z22 => (k z22) | .inr z23 => (k true)) | none => none))
noncomputable abbrev F15_d (N : Nat) (x : (List (List AV)) × (List (List AV))) : Option (Bool) := (F15_s N).d x
theorem F15_par8 (N : Nat) : Par (F15_l8 N).b := by
  intro x α β kn ke kn' ke' r r' h h1 h2
  revert h
  dsimp only [F15_l8]
  (repeat' (first | (with_reducible refine par_ite ?_ ?_) | (with_reducible refine par_both ?_ ?_) | split)) <;> intro h <;> first | exact h1 _ h | exact h2 _ h | (cases h; done)
theorem F15_body8 (N : Nat) (x : (F15_l8 N).X) (α : Type) (kn : AS → Option α) (ke : Out → Option α) : around (tabOf Try.prog) (F15_g N) F15_an (lam N [(8, F15_l8 N)]) 8 (bodyOf (nthLoop 8 (Try.f15.body.getD .skip))) ((F15_l8 N).st x) kn ke = (F15_l8 N).b x α (fun x' => kn ((F15_l8 N).st x')) (fun y => (F15_l8 N).sp y α ke) := by kernel_rfl
theorem F15_pat8 (N : Nat) (s : AS) (x : (F15_l8 N).X) (hc : s = canon (F15_an 8).1 s) (h : (F15_l8 N).p s = some x) : s = (F15_l8 N).st x := by
  dsimp only [F15_l8] at h
  split at h
  · cases h
    exact canon_mk hc ‹_› ‹_› rfl rfl rfl ⟨‹_›, ‹_›, ‹_›, trivial⟩ trivial
  · cases h
theorem F15_loop8 (N : Nat) : ∀ s o, s = canon (F15_an 8).1 s → (lam N [(8, F15_l8 N)]).v 8 s = some o → LoopSem Try.prog (nthLoop 8 (Try.f15.body.getD .skip)) s o :=
  loop_ok (tabOf_ok Try.prog) (gam_ok _) mixed F15_an N [(8, F15_l8 N)] 8 (bodyOf (nthLoop 8 (Try.f15.body.getD .skip))) (nthLoop 8 (Try.f15.body.getD .skip)) (by kernel_rfl) (by
    have e : actOf F15_an (bodyOf (nthLoop 8 (Try.f15.body.getD .skip))) (8 + 1) = [] := by kernel_rfl
    rw [e]
    intro p hp
    cases hp) (F15_l8 N) rfl (fun s x hc h => F15_pat8 N s x hc h) (fun x => rfl) (fun x α kn ke => (F15_body8 N x α kn ke).trans (congrArg ((F15_l8 N).b x α _) (funext fun y => (F15_l8 N).spe y α ke))) (F15_par8 N)
theorem F15_parF (N : Nat) : ParF (F15_s N).t := by
  intro x α β k k' r r' h h1
  revert h
  dsimp only [F15_s]
  (repeat' (first | (with_reducible refine par_ite ?_ ?_) | (with_reducible refine par_both ?_ ?_) | split)) <;> intro h <;> first | exact h1 _ h | (cases h; done)
theorem F15_text (N : Nat) (x : (F15_s N).X) : acall (tabOf Try.prog) (F15_g N) F15_an (lam N [(8, F15_l8 N)]) Try.f15 (F15_s N).S ((F15_s N).args x) ((F15_s N).bs x) = (F15_s N).t x Ret (fun y => some ((F15_s N).ret y)) := by kernel_rfl
theorem F15_pat (N : Nat) (a : List AV) (b : List (List AV)) (x : (F15_s N).X) (h : (F15_s N).pat a b = some x) : a = (F15_s N).args x ∧ b = (F15_s N).bs x := by
  dsimp only [F15_s] at h
  split at h
  · cases h; exact ⟨rfl, rfl⟩
  · cases h
noncomputable def F15_e (N : Nat) : Ent Try.prog := entOf (tabOf_ok Try.prog) (gam_ok _) mixed 15 Try.f15 Try.func15 rfl F15_an (lam N [(8, F15_l8 N)]) (by
    have e : actOf F15_an (Try.f15.body.getD .skip) 0 = [(8, nthLoop 8 (Try.f15.body.getD .skip))] := by kernel_rfl
    rw [e]
    intro p hp
    rcases List.mem_cons.1 hp with rfl | hp
    · exact F15_loop8 N
    cases hp) (F15_s N) (fun _ => ⟨rfl, rfl⟩) (F15_text N) (F15_pat N) (F15_parF N)
/-! ### seismonet/seismonetlaw22.DetectorPrefix (function 3) -/
def F3_an : Nat → Keep × Keep := anF [(17, ⟨[6, 8, 69, 70], [], [6], [(7, 1), (9, 3), (11, 3)], [], [], [], [], false⟩, ⟨[4, 6, 8], [], [6], [(7, 1), (11, 3)], [], [], [], [], false⟩), (38, ⟨[6, 17, 18, 148, 149], [], [6], [(7, 1), (11, 3), (14, 1), (15, 3), (147, 3)], [], [], [], [], false⟩, ⟨[6, 17, 18], [], [6], [(7, 1), (11, 3), (14, 1), (15, 3)], [], [], [], [], false⟩), (53, ⟨[6, 197, 198], [(22, 3)], [6], [(11, 3), (196, 3)], [], [], [], [], false⟩, ⟨[], [(22, 3)], [], [(11, 3)], [], [], [], [], false⟩)] [(100017, ([14], []))]
noncomputable def F3_g (N : Nat) : GamK := gam (P := Try.prog) [F8_e N, F9_e N, F10_e N, F11_e N, F12_e N, F13_e N, F14_e N, F15_e N]
noncomputable def F3_l53 (N : Nat) : LSpec where
  X := (List (List AV)) × (List (List AV)) × (List (List AV)) × Int × Int × Int × Int × Int × Int
  Y := ((List (List AV)) × (List (List AV)))
  p := fun s => match s.env.length, s.nin, s.at 22, s.at 11, s.at 196, s.at 6, s.at 197, s.at 198, s.bx 6 with
    | 220, 0, (AV.list 3 a0 (some 1280001408)), (AV.list 3 a1 none), (AV.list 3 a2 none), (AV.ptr 6 0), (AV.v (.int .i64 a3)), (AV.v (.int .i64 a4)), some [(AV.v (.int .i64 a5)), (AV.v (.int .i64 a6)), (AV.v (.int .i64 a7)), (AV.v (.int .i64 a8))] => some (a0, a1, a2, a3, a4, a5, a6, a7, a8)
    | _, _, _, _, _, _, _, _, _ => none
  st := fun x => mkS 220 [(22, (AV.list 3 x.1 (some 1280001408))), (11, (AV.list 3 x.2.1 none)), (196, (AV.list 3 x.2.2.1 none)), (6, (AV.ptr 6 0)), (197, (AV.v (.int .i64 x.2.2.2.1))), (198, (AV.v (.int .i64 x.2.2.2.2.1)))] [(6, [(AV.v (.int .i64 x.2.2.2.2.2.1)), (AV.v (.int .i64 x.2.2.2.2.2.2.1)), (AV.v (.int .i64 x.2.2.2.2.2.2.2.1)), (AV.v (.int .i64 x.2.2.2.2.2.2.2.2))])] (F3_an 53).1.toks 0
  out := fun y => (.exit 4, mkS 220 [(22, (AV.list 3 y.1 (some 1280001408))), (11, (AV.list 3 y.2 none))] [] (F3_an 53).2.toks 0)
  sp := fun y α k => k (.exit 4, mkS 220 [(22, (AV.list 3 y.1 (some 1280001408))), (11, (AV.list 3 y.2 none))] [] (F3_an 53).2.toks 0)
  spe := fun y α k => rfl
  b := fun x α kn ke => (match (decide (x.2.2.2.2.1 < x.2.2.2.1)) with | true => (if 0 ≤ x.2.2.2.2.1 then (match x.2.2.1[x.2.2.2.2.1.toNat]? with | some c146 => (match c146[0]? with | some x147 => (match x147 with | .v (.int q149 n148) => (if q149 = .i64 then (match c146[1]? with | some x150 => (match x150 with | .v (.int q152 n151) => (if q152 = .i64 then (match c146[2]? with | some x153 => (match x153 with | .v (.int q155 n154) => (if q155 = .i64 then (match (decide (n148 ≥ (i64 (x.2.2.2.2.2.2.1 - 1)))) with | true => (if (x.1.length + [[(AV.v (.int .i64 n148)), (AV.v (.int .i64 n151)), (AV.v (.int .i64 n154))]].length) * 24 ≤ maxBytes then (kn ((x.1 ++ [[(AV.v (.int .i64 n148)), (AV.v (.int .i64 n151)), (AV.v (.int .i64 n154))]]), x.2.1, x.2.2.1, x.2.2.2.1, (i64 (x.2.2.2.2.1 + 1)), x.2.2.2.2.2.1, x.2.2.2.2.2.2.1, x.2.2.2.2.2.2.2.1, x.2.2.2.2.2.2.2.2)) else none) | false => (kn (x.1, x.2.1, x.2.2.1, x.2.2.2.1, (i64 (x.2.2.2.2.1 + 1)), x.2.2.2.2.2.1, x.2.2.2.2.2.2.1, x.2.2.2.2.2.2.2.1, x.2.2.2.2.2.2.2.2))) else none) | _ => none) | none => none) else none) | _ => none) | none => none) else none) | _ => none) | none => none) | none => none) else none) | false => (ke (x.1, x.2.1)))
noncomputable abbrev F3_d53 (N : Nat) (x : (List (List AV)) × (List (List AV)) × (List (List AV)) × Int × Int × Int × Int × Int × Int) : Option (((List (List AV)) × (List (List AV)))) := (F3_l53 N).L N x
noncomputable def F3_l38 (N : Nat) : LSpec where
  X := (List (List AV)) × (List (List AV)) × (List (List AV)) × (List (List AV)) × (List (List AV)) × Bool × Int × Int × Int × Int × Int × Int
  Y := ((List (List AV)) × (List (List AV)) × (List (List AV)) × (List (List AV)) × Bool × Int × Int × Int × Int)
  p := fun s => match s.env.length, s.nin, s.at 7, s.at 11, s.at 14, s.at 15, s.at 147, s.at 6, s.at 17, s.at 18, s.at 148, s.at 149, s.bx 6 with
    | 220, 0, (AV.list 1 a0 none), (AV.list 3 a1 none), (AV.list 1 a2 none), (AV.list 3 a3 none), (AV.list 3 a4 none), (AV.ptr 6 0), (AV.fn (.func 14) [] []), (AV.v (.bool a5)), (AV.v (.int .i64 a6)), (AV.v (.int .i64 a7)), some [(AV.v (.int .i64 a8)), (AV.v (.int .i64 a9)), (AV.v (.int .i64 a10)), (AV.v (.int .i64 a11))] => some (a0, a1, a2, a3, a4, a5, a6, a7, a8, a9, a10, a11)
    | _, _, _, _, _, _, _, _, _, _, _, _, _ => none
  st := fun x => mkS 220 [(7, (AV.list 1 x.1 none)), (11, (AV.list 3 x.2.1 none)), (14, (AV.list 1 x.2.2.1 none)), (15, (AV.list 3 x.2.2.2.1 none)), (147, (AV.list 3 x.2.2.2.2.1 none)), (6, (AV.ptr 6 0)), (17, (AV.fn (.func 14) [] [])), (18, (AV.v (.bool x.2.2.2.2.2.1))), (148, (AV.v (.int .i64 x.2.2.2.2.2.2.1))), (149, (AV.v (.int .i64 x.2.2.2.2.2.2.2.1)))] [(6, [(AV.v (.int .i64 x.2.2.2.2.2.2.2.2.1)), (AV.v (.int .i64 x.2.2.2.2.2.2.2.2.2.1)), (AV.v (.int .i64 x.2.2.2.2.2.2.2.2.2.2.1)), (AV.v (.int .i64 x.2.2.2.2.2.2.2.2.2.2.2))])] (F3_an 38).1.toks 0
  out := fun y => (.exit 2, mkS 220 [(7, (AV.list 1 y.1 none)), (11, (AV.list 3 y.2.1 none)), (14, (AV.list 1 y.2.2.1 none)), (15, (AV.list 3 y.2.2.2.1 none)), (6, (AV.ptr 6 0)), (17, (AV.fn (.func 14) [] [])), (18, (AV.v (.bool y.2.2.2.2.1)))] [(6, [(AV.v (.int .i64 y.2.2.2.2.2.1)), (AV.v (.int .i64 y.2.2.2.2.2.2.1)), (AV.v (.int .i64 y.2.2.2.2.2.2.2.1)), (AV.v (.int .i64 y.2.2.2.2.2.2.2.2))])] (F3_an 38).2.toks 0)
  sp := fun y α k => k (.exit 2, mkS 220 [(7, (AV.list 1 y.1 none)), (11, (AV.list 3 y.2.1 none)), (14, (AV.list 1 y.2.2.1 none)), (15, (AV.list 3 y.2.2.2.1 none)), (6, (AV.ptr 6 0)), (17, (AV.fn (.func 14) [] [])), (18, (AV.v (.bool y.2.2.2.2.1)))] [(6, [(AV.v (.int .i64 y.2.2.2.2.2.1)), (AV.v (.int .i64 y.2.2.2.2.2.2.1)), (AV.v (.int .i64 y.2.2.2.2.2.2.2.1)), (AV.v (.int .i64 y.2.2.2.2.2.2.2.2))])] (F3_an 38).2.toks 0)
  spe := fun y α k => rfl
  b := fun x α kn ke => (match (decide (x.2.2.2.2.2.2.2.1 < x.2.2.2.2.2.2.1)) with | true => (if 0 ≤ x.2.2.2.2.2.2.2.1 then (match x.2.2.2.2.1[x.2.2.2.2.2.2.2.1.toNat]? with | some c134 => (match c134[0]? with | some x135 => (match x135 with | .v (.int q137 n136) => (if q137 = .i64 then (match c134[1]? with | some x138 => (match x138 with | .v (.int q140 n139) => (if q140 = .i64 then (match c134[2]? with | some x141 => (match x141 with | .v (.int q143 n142) => (if q143 = .i64 then (match x.2.2.2.2.2.1 with | true => (kn (x.1, x.2.1, x.2.2.1, x.2.2.2.1, x.2.2.2.2.1, true, x.2.2.2.2.2.2.1, (i64 (x.2.2.2.2.2.2.2.1 + 1)), x.2.2.2.2.2.2.2.2.1, x.2.2.2.2.2.2.2.2.2.1, x.2.2.2.2.2.2.2.2.2.2.1, x.2.2.2.2.2.2.2.2.2.2.2)) | false => (match (decide (n136 < (i64 ((i64 ((x.2.2.1.length : Int) + x.2.2.2.2.2.2.2.2.2.1)) - 1)))) with | true => (match (decide (n139 < 0)) with | true => (kn (x.1, x.2.1, x.2.2.1, x.2.2.2.1, x.2.2.2.2.1, true, x.2.2.2.2.2.2.1, (i64 (x.2.2.2.2.2.2.2.1 + 1)), x.2.2.2.2.2.2.2.2.1, x.2.2.2.2.2.2.2.2.2.1, x.2.2.2.2.2.2.2.2.2.2.1, x.2.2.2.2.2.2.2.2.2.2.2)) | false => (kn (x.1, x.2.1, x.2.2.1, x.2.2.2.1, x.2.2.2.2.1, (decide (n139 > (i64 ((i64 ((x.2.2.1.length : Int) + x.2.2.2.2.2.2.2.2.2.1)) - 1)))), x.2.2.2.2.2.2.1, (i64 (x.2.2.2.2.2.2.2.1 + 1)), x.2.2.2.2.2.2.2.2.1, x.2.2.2.2.2.2.2.2.2.1, x.2.2.2.2.2.2.2.2.2.2.1, x.2.2.2.2.2.2.2.2.2.2.2))) | false => (kn (x.1, x.2.1, x.2.2.1, x.2.2.2.1, x.2.2.2.2.1, false, x.2.2.2.2.2.2.1, (i64 (x.2.2.2.2.2.2.2.1 + 1)), x.2.2.2.2.2.2.2.2.1, x.2.2.2.2.2.2.2.2.2.1, x.2.2.2.2.2.2.2.2.2.2.1, x.2.2.2.2.2.2.2.2.2.2.2)))) else none) | _ => none) | none => none) else none) | _ => none) | none => none) else none) | _ => none) | none => none) | none => none) else none) | false => (ke (x.1, x.2.1, x.2.2.1, x.2.2.2.1, x.2.2.2.2.2.1, x.2.2.2.2.2.2.2.2.1, x.2.2.2.2.2.2.2.2.2.1, x.2.2.2.2.2.2.2.2.2.2.1, x.2.2.2.2.2.2.2.2.2.2.2)))
noncomputable abbrev F3_d38 (N : Nat) (x : (List (List AV)) × (List (List AV)) × (List (List AV)) × (List (List AV)) × (List (List AV)) × Bool × Int × Int × Int × Int × Int × Int) : Option (((List (List AV)) × (List (List AV)) × (List (List AV)) × (List (List AV)) × Bool × Int × Int × Int × Int)) := (F3_l38 N).L N x
noncomputable def F3_l17 (N : Nat) : LSpec where
  X := (List (List AV)) × (List (List AV)) × (List (List AV)) × Int × Int × Int × Int × Int × Int × Int
  Y := ((List (List AV)) × (List (List AV)) × Bool × Int × Int × Int × Int × Int) ⊕ ((List (List AV)) × (List (List AV)) × Int × Int × Int × Int × Int)
  p := fun s => match s.env.length, s.nin, s.at 7, s.at 9, s.at 11, s.at 6, s.at 8, s.at 69, s.at 70, s.bx 6 with
    | 220, 0, (AV.list 1 a0 none), (AV.list 3 a1 none), (AV.list 3 a2 none), (AV.ptr 6 0), (AV.v (.int .i64 a3)), (AV.v (.int .i64 a4)), (AV.v (.int .i64 a5)), some [(AV.v (.int .i64 a6)), (AV.v (.int .i64 a7)), (AV.v (.int .i64 a8)), (AV.v (.int .i64 a9))] => some (a0, a1, a2, a3, a4, a5, a6, a7, a8, a9)
    | _, _, _, _, _, _, _, _, _, _ => none
  st := fun x => mkS 220 [(7, (AV.list 1 x.1 none)), (9, (AV.list 3 x.2.1 none)), (11, (AV.list 3 x.2.2.1 none)), (6, (AV.ptr 6 0)), (8, (AV.v (.int .i64 x.2.2.2.1))), (69, (AV.v (.int .i64 x.2.2.2.2.1))), (70, (AV.v (.int .i64 x.2.2.2.2.2.1)))] [(6, [(AV.v (.int .i64 x.2.2.2.2.2.2.1)), (AV.v (.int .i64 x.2.2.2.2.2.2.2.1)), (AV.v (.int .i64 x.2.2.2.2.2.2.2.2.1)), (AV.v (.int .i64 x.2.2.2.2.2.2.2.2.2))])] (F3_an 17).1.toks 0
  out := fun y => match y with
    | .inl y => (.ret, mkS 220 [(7, (AV.list 1 y.1 none)), (11, (AV.list 3 y.2.1 none)), (4, (AV.v (.bool y.2.2.1))), (6, (AV.ptr 6 0)), (8, (AV.v (.int .i64 y.2.2.2.1)))] [(6, [(AV.v (.int .i64 y.2.2.2.2.1)), (AV.v (.int .i64 y.2.2.2.2.2.1)), (AV.v (.int .i64 y.2.2.2.2.2.2.1)), (AV.v (.int .i64 y.2.2.2.2.2.2.2))])] (F3_an 17).2.toks 0)
    | .inr y => (.exit 0, mkS 220 [(7, (AV.list 1 y.1 none)), (11, (AV.list 3 y.2.1 none)), (6, (AV.ptr 6 0)), (8, (AV.v (.int .i64 y.2.2.1)))] [(6, [(AV.v (.int .i64 y.2.2.2.1)), (AV.v (.int .i64 y.2.2.2.2.1)), (AV.v (.int .i64 y.2.2.2.2.2.1)), (AV.v (.int .i64 y.2.2.2.2.2.2))])] (F3_an 17).2.toks 0)
  sp := fun y α k => match y with
    | .inl y => k (.ret, mkS 220 [(7, (AV.list 1 y.1 none)), (11, (AV.list 3 y.2.1 none)), (4, (AV.v (.bool y.2.2.1))), (6, (AV.ptr 6 0)), (8, (AV.v (.int .i64 y.2.2.2.1)))] [(6, [(AV.v (.int .i64 y.2.2.2.2.1)), (AV.v (.int .i64 y.2.2.2.2.2.1)), (AV.v (.int .i64 y.2.2.2.2.2.2.1)), (AV.v (.int .i64 y.2.2.2.2.2.2.2))])] (F3_an 17).2.toks 0)
    | .inr y => k (.exit 0, mkS 220 [(7, (AV.list 1 y.1 none)), (11, (AV.list 3 y.2.1 none)), (6, (AV.ptr 6 0)), (8, (AV.v (.int .i64 y.2.2.1)))] [(6, [(AV.v (.int .i64 y.2.2.2.1)), (AV.v (.int .i64 y.2.2.2.2.1)), (AV.v (.int .i64 y.2.2.2.2.2.1)), (AV.v (.int .i64 y.2.2.2.2.2.2))])] (F3_an 17).2.toks 0)
  spe := fun y α k => by rcases y with _ | _ <;> rfl
  b := fun x α kn ke => (match (decide (x.2.2.2.2.2.1 < x.2.2.2.2.1)) with | true => (if 0 ≤ x.2.2.2.2.2.1 then (match x.2.1[x.2.2.2.2.2.1.toNat]? with | some c64 => (match (c64.drop 0)[0]? with | some x65 => (match x65 with | .v (.int q67 n66) => (if q67 = .i64 then (if 0 ≤ x.2.2.2.2.2.1 then (match x.2.2.1[x.2.2.2.2.2.1.toNat]? with | some c68 => (match (c68.drop 0)[0]? with | some x69 => (match x69 with | .v (.int q71 n70) => (if q71 = .i64 then (match (n66 != n70) with | true => (ke (.inl (x.1, x.2.2.1, false, x.2.2.2.1, x.2.2.2.2.2.2.1, x.2.2.2.2.2.2.2.1, x.2.2.2.2.2.2.2.2.1, x.2.2.2.2.2.2.2.2.2))) | false => (if 0 ≤ x.2.2.2.2.2.1 then (match x.2.1[x.2.2.2.2.2.1.toNat]? with | some c72 => (match (c72.drop 1)[0]? with | some x73 => (match x73 with | .v (.int q75 n74) => (if q75 = .i64 then (match (decide (n74 ≥ 0)) with | true => (if 0 ≤ x.2.2.2.2.2.1 then (match x.2.1[x.2.2.2.2.2.1.toNat]? with | some c76 => (match c76[0]? with | some x77 => (match x77 with | .v (.int q79 n78) => (if q79 = .i64 then (match c76[1]? with | some x80 => (match x80 with | .v (.int q82 n81) => (if q82 = .i64 then (match c76[2]? with | some x83 => (match x83 with | .v (.int q85 n84) => (if q85 = .i64 then (if 0 ≤ x.2.2.2.2.2.1 then (match x.2.2.1[x.2.2.2.2.2.1.toNat]? with | some c86 => (match c86[0]? with | some x87 => (match x87 with | .v (.int q89 n88) => (if q89 = .i64 then (match c86[1]? with | some x90 => (match x90 with | .v (.int q92 n91) => (if q92 = .i64 then (match c86[2]? with | some x93 => (match x93 with | .v (.int q95 n94) => (if q95 = .i64 then (match (!((n78 == n88) && ((n81 == n91) && ((n84 == n94) && true)))) with | true => (ke (.inl (x.1, x.2.2.1, false, x.2.2.2.1, x.2.2.2.2.2.2.1, x.2.2.2.2.2.2.2.1, x.2.2.2.2.2.2.2.2.1, x.2.2.2.2.2.2.2.2.2))) | false => (if 0 ≤ x.2.2.2.2.2.1 then (match x.2.1[x.2.2.2.2.2.1.toNat]? with | some c96 => (match (c96.drop 1)[0]? with | some x97 => (match x97 with | .v (.int q99 n98) => (if q99 = .i64 then (match (decide (n98 < 0)) with | true => (match (x.2.2.2.2.2.1 != (i64 ((x.2.1.length : Int) - 1))) with | true => (ke (.inl (x.1, x.2.2.1, false, x.2.2.2.1, x.2.2.2.2.2.2.1, x.2.2.2.2.2.2.2.1, x.2.2.2.2.2.2.2.2.1, x.2.2.2.2.2.2.2.2.2))) | false => (if 0 ≤ x.2.2.2.2.2.1 then (match x.2.2.1[x.2.2.2.2.2.1.toNat]? with | some c100 => (match (c100.drop 2)[0]? with | some x101 => (match x101 with | .v (.int q103 n102) => (if q103 = .i64 then (if 0 ≤ x.2.2.2.2.2.1 then (match x.2.1[x.2.2.2.2.2.1.toNat]? with | some c104 => (match (c104.drop 2)[0]? with | some x105 => (match x105 with | .v (.int q107 n106) => (if q107 = .i64 then (match (decide (n102 < n106)) with | true => (ke (.inl (x.1, x.2.2.1, false, x.2.2.2.1, x.2.2.2.2.2.2.1, x.2.2.2.2.2.2.2.1, x.2.2.2.2.2.2.2.2.1, x.2.2.2.2.2.2.2.2.2))) | false => (kn (x.1, x.2.1, x.2.2.1, x.2.2.2.1, x.2.2.2.2.1, (i64 (x.2.2.2.2.2.1 + 1)), x.2.2.2.2.2.2.1, x.2.2.2.2.2.2.2.1, x.2.2.2.2.2.2.2.2.1, x.2.2.2.2.2.2.2.2.2))) else none) | _ => none) | none => none) | none => none) else none) else none) | _ => none) | none => none) | none => none) else none)) | false => (kn (x.1, x.2.1, x.2.2.1, x.2.2.2.1, x.2.2.2.2.1, (i64 (x.2.2.2.2.2.1 + 1)), x.2.2.2.2.2.2.1, x.2.2.2.2.2.2.2.1, x.2.2.2.2.2.2.2.2.1, x.2.2.2.2.2.2.2.2.2))) else none) | _ => none) | none => none) | none => none) else none)) else none) | _ => none) | none => none) else none) | _ => none) | none => none) else none) | _ => none) | none => none) | none => none) else none) else none) | _ => none) | none => none) else none) | _ => none) | none => none) else none) | _ => none) | none => none) | none => none) else none) | false => (if 0 ≤ x.2.2.2.2.2.1 then (match x.2.1[x.2.2.2.2.2.1.toNat]? with | some c108 => (match (c108.drop 1)[0]? with | some x109 => (match x109 with | .v (.int q111 n110) => (if q111 = .i64 then (match (decide (n110 < 0)) with | true => (match (x.2.2.2.2.2.1 != (i64 ((x.2.1.length : Int) - 1))) with | true => (ke (.inl (x.1, x.2.2.1, false, x.2.2.2.1, x.2.2.2.2.2.2.1, x.2.2.2.2.2.2.2.1, x.2.2.2.2.2.2.2.2.1, x.2.2.2.2.2.2.2.2.2))) | false => (if 0 ≤ x.2.2.2.2.2.1 then (match x.2.2.1[x.2.2.2.2.2.1.toNat]? with | some c112 => (match (c112.drop 2)[0]? with | some x113 => (match x113 with | .v (.int q115 n114) => (if q115 = .i64 then (if 0 ≤ x.2.2.2.2.2.1 then (match x.2.1[x.2.2.2.2.2.1.toNat]? with | some c116 => (match (c116.drop 2)[0]? with | some x117 => (match x117 with | .v (.int q119 n118) => (if q119 = .i64 then (match (decide (n114 < n118)) with | true => (ke (.inl (x.1, x.2.2.1, false, x.2.2.2.1, x.2.2.2.2.2.2.1, x.2.2.2.2.2.2.2.1, x.2.2.2.2.2.2.2.2.1, x.2.2.2.2.2.2.2.2.2))) | false => (kn (x.1, x.2.1, x.2.2.1, x.2.2.2.1, x.2.2.2.2.1, (i64 (x.2.2.2.2.2.1 + 1)), x.2.2.2.2.2.2.1, x.2.2.2.2.2.2.2.1, x.2.2.2.2.2.2.2.2.1, x.2.2.2.2.2.2.2.2.2))) else none) | _ => none) | none => none) | none => none) else none) else none) | _ => none) | none => none) | none => none) else none)) | false => (kn (x.1, x.2.1, x.2.2.1, x.2.2.2.1, x.2.2.2.2.1, (i64 (x.2.2.2.2.2.1 + 1)), x.2.2.2.2.2.2.1, x.2.2.2.2.2.2.2.1, x.2.2.2.2.2.2.2.2.1, x.2.2.2.2.2.2.2.2.2))) else none) | _ => none) | none => none) | none => none) else none)) else none) | _ => none) | none => none) | none => none) else none)) else none) | _ => none) | none => none) | none => none) else none) else none) | _ => none) | none => none) | none => none) else none) | false => (ke (.inr (x.1, x.2.2.1, x.2.2.2.1, x.2.2.2.2.2.2.1, x.2.2.2.2.2.2.2.1, x.2.2.2.2.2.2.2.2.1, x.2.2.2.2.2.2.2.2.2))))
noncomputable abbrev F3_d17 (N : Nat) (x : (List (List AV)) × (List (List AV)) × (List (List AV)) × Int × Int × Int × Int × Int × Int × Int) : Option (((List (List AV)) × (List (List AV)) × Bool × Int × Int × Int × Int × Int) ⊕ ((List (List AV)) × (List (List AV)) × Int × Int × Int × Int × Int)) := (F3_l17 N).L N x
noncomputable def F3_s (N : Nat) : FSpec where
  X := (List (List AV)) × Int
  Y := Bool
  ash := [[some 1], [none]]
  bsh := []
  S := ⟨[[none]], [], [], [], []⟩
  bm := false
  pat := fun a b => match a, b with
    | [(AV.list 1 a0 none), (AV.v (.int .u8 a1))], [] => some (a0, a1)
    | _, _ => none
  args := fun x => [(AV.list 1 x.1 none), (AV.v (.int .u8 x.2))]
  bs := fun x => []
  ret := fun y => ⟨(AV.v (.bool y)), [], none, [], [], []⟩
  t := fun x α k => (match F8_d N x.1 with | some y1 => (match (!y1) with | true => (match F9_d N () with | some y2 => (k y2) | none => none) | false => (match F10_d N x.1 with | some y3 => (match F11_d N (y3.1, y3.2) with | some y4 => (match F12_d N (60, y4.2.2.2.2.1, y4.2.2.2.2.2) with | some y5 => (if (i64 ((y5.1.length : Int) + 1)) = 0 then none else (if 0 ≤ ((IntKind.i64.wrap x.2).tmod (i64 ((y5.1.length : Int) + 1))) ∧ ((IntKind.i64.wrap x.2).tmod (i64 ((y5.1.length : Int) + 1))) ≤ y5.1.length then (match F13_d N (y4.1, y4.2.1, y4.2.2.1, y4.2.2.2.1, (y5.1.take ((IntKind.i64.wrap x.2).tmod (i64 ((y5.1.length : Int) + 1))).toNat)) with | some y6 => (match F13_d N (y4.1, y4.2.1, y4.2.2.1, y4.2.2.2.1, y5.1) with | some y7 => (match (y6.2 != 0) with | true => (k false) | false => (match (y7.2 != 0) with | true => (k false) | false => (match (decide ((y6.1.length : Int) > (y7.1.length : Int))) with | true => (k false) | false => (match F3_d17 N (y5.1, y6.1, y7.1, ((IntKind.i64.wrap x.2).tmod (i64 ((y5.1.length : Int) + 1))), (y6.1.length : Int), 0, y4.1, y4.2.1, y4.2.2.1, y4.2.2.2.1) with | some y120 => (match y120 with | .inl z121 => (k z121.2.2.1) | .inr z122 => (if 0 ≤ (i64 (z122.2.2.2.2.1 + z122.2.2.1)) ∧ (i64 (z122.2.2.2.2.1 + z122.2.2.1)) ≤ (i64 (z122.2.2.2.2.1 + z122.2.2.1)) ∧ (i64 (z122.2.2.2.2.1 + z122.2.2.1)).toNat * 8 ≤ maxBytes then (if ((i64 (z122.2.2.2.2.1 + z122.2.2.1)).toNat) * 1 ≤ (List.replicate (i64 (z122.2.2.2.2.1 + z122.2.2.1)).toNat (AV.v (.int .i64 0))).length then (if ((chunks ((List.replicate (i64 (z122.2.2.2.2.1 + z122.2.2.1)).toNat (AV.v (.int .i64 0))).take (((i64 (z122.2.2.2.2.1 + z122.2.2.1)).toNat) * 1)) 1 ((i64 (z122.2.2.2.2.1 + z122.2.2.1)).toNat)).length + z122.1.length) * 8 ≤ maxBytes then (match F13_d N (z122.2.2.2.1, z122.2.2.2.2.1, z122.2.2.2.2.2.1, z122.2.2.2.2.2.2, ((chunks ((List.replicate (i64 (z122.2.2.2.2.1 + z122.2.2.1)).toNat (AV.v (.int .i64 0))).take (((i64 (z122.2.2.2.2.1 + z122.2.2.1)).toNat) * 1)) 1 ((i64 (z122.2.2.2.2.1 + z122.2.2.1)).toNat)) ++ z122.1)) with | some y123 => (match (y123.2 != 0) with | true => (k false) | false => (match F3_d38 N (z122.1, z122.2.1, (chunks ((List.replicate (i64 (z122.2.2.2.2.1 + z122.2.2.1)).toNat (AV.v (.int .i64 0))).take (((i64 (z122.2.2.2.2.1 + z122.2.2.1)).toNat) * 1)) 1 ((i64 (z122.2.2.2.2.1 + z122.2.2.1)).toNat)), y123.1, y123.1, false, (y123.1.length : Int), 0, z122.2.2.2.1, z122.2.2.2.2.1, z122.2.2.2.2.2.1, z122.2.2.2.2.2.2) with | some y144 => (match (decide ((y144.1.length : Int) ≥ y144.2.2.2.2.2.2.1)) with | true => (match (!y144.2.2.2.2.1) with | true => (match F14_d N (y144.2.2.2.1, (y144.2.2.1.length : Int)) with | some y145 => (match F3_d53 N (([] : List (List AV)), y144.2.1, y145, (y145.length : Int), 0, y144.2.2.2.2.2.1, y144.2.2.2.2.2.2.1, y144.2.2.2.2.2.2.2.1, y144.2.2.2.2.2.2.2.2) with | some y156 => (match F15_d N (y156.1, y156.2) with | some y157 => (match y157 with | true => (match F9_d N () with | some y158 => (k y158) | none => none) | false => (k false)) | none => none) | none => none) | none => none) | false => (match F9_d N () with | some y159 => (k y159) | none => none)) | false => (match F9_d N () with | some y160 => (k y160) | none => none)) | none => none)) | none => none) else none) else none) else none)) | none => none)))) | none => none) | none => none) else none)) | none => none) | none => none) | none => none)) | none => none)
noncomputable abbrev F3_d (N : Nat) (x : (List (List AV)) × Int) : Option (Bool) := (F3_s N).d x
theorem F3_par53 (N : Nat) : Par (F3_l53 N).b := by
  intro x α β kn ke kn' ke' r r' h h1 h2
  revert h
  dsimp only [F3_l53]
  (repeat' (first | (with_reducible refine par_ite ?_ ?_) | (with_reducible refine par_both ?_ ?_) | split)) <;> intro h <;> first | exact h1 _ h | exact h2 _ h | (cases h; done)
theorem F3_body53 (N : Nat) (x : (F3_l53 N).X) (α : Type) (kn : AS → Option α) (ke : Out → Option α) : around (tabOf Try.prog) (F3_g N) F3_an (lam N [(17, F3_l17 N), (38, F3_l38 N), (53, F3_l53 N)]) 53 (bodyOf (nthLoop 53 (Try.f3.body.getD .skip))) ((F3_l53 N).st x) kn ke = (F3_l53 N).b x α (fun x' => kn ((F3_l53 N).st x')) (fun y => (F3_l53 N).sp y α ke) := by kernel_rfl
theorem F3_pat53 (N : Nat) (s : AS) (x : (F3_l53 N).X) (hc : s = canon (F3_an 53).1 s) (h : (F3_l53 N).p s = some x) : s = (F3_l53 N).st x := by
  dsimp only [F3_l53] at h
  split at h
  · cases h
    exact canon_mk hc ‹_› ‹_› rfl rfl rfl ⟨‹_›, ‹_›, ‹_›, ‹_›, ‹_›, ‹_›, trivial⟩ ⟨‹_›, trivial⟩
  · cases h
theorem F3_loop53 (N : Nat) : ∀ s o, s = canon (F3_an 53).1 s → (lam N [(17, F3_l17 N), (38, F3_l38 N), (53, F3_l53 N)]).v 53 s = some o → LoopSem Try.prog (nthLoop 53 (Try.f3.body.getD .skip)) s o :=
  loop_ok (tabOf_ok Try.prog) (gam_ok _) mixed F3_an N [(17, F3_l17 N), (38, F3_l38 N), (53, F3_l53 N)] 53 (bodyOf (nthLoop 53 (Try.f3.body.getD .skip))) (nthLoop 53 (Try.f3.body.getD .skip)) (by kernel_rfl) (by
    have e : actOf F3_an (bodyOf (nthLoop 53 (Try.f3.body.getD .skip))) (53 + 1) = [] := by kernel_rfl
    rw [e]
    intro p hp
    cases hp) (F3_l53 N) rfl (fun s x hc h => F3_pat53 N s x hc h) (fun x => rfl) (fun x α kn ke => (F3_body53 N x α kn ke).trans (congrArg ((F3_l53 N).b x α _) (funext fun y => (F3_l53 N).spe y α ke))) (F3_par53 N)
theorem F3_par38 (N : Nat) : Par (F3_l38 N).b := by
  intro x α β kn ke kn' ke' r r' h h1 h2
  revert h
  dsimp only [F3_l38]
  (repeat' (first | (with_reducible refine par_ite ?_ ?_) | (with_reducible refine par_both ?_ ?_) | split)) <;> intro h <;> first | exact h1 _ h | exact h2 _ h | (cases h; done)
theorem F3_body38 (N : Nat) (x : (F3_l38 N).X) (α : Type) (kn : AS → Option α) (ke : Out → Option α) : around (tabOf Try.prog) (F3_g N) F3_an (lam N [(17, F3_l17 N), (38, F3_l38 N), (53, F3_l53 N)]) 38 (bodyOf (nthLoop 38 (Try.f3.body.getD .skip))) ((F3_l38 N).st x) kn ke = (F3_l38 N).b x α (fun x' => kn ((F3_l38 N).st x')) (fun y => (F3_l38 N).sp y α ke) := by kernel_rfl
theorem F3_pat38 (N : Nat) (s : AS) (x : (F3_l38 N).X) (hc : s = canon (F3_an 38).1 s) (h : (F3_l38 N).p s = some x) : s = (F3_l38 N).st x := by
  dsimp only [F3_l38] at h
  split at h
  · cases h
    exact canon_mk hc ‹_› ‹_› rfl rfl rfl ⟨‹_›, ‹_›, ‹_›, ‹_›, ‹_›, ‹_›, ‹_›, ‹_›, ‹_›, ‹_›, trivial⟩ ⟨‹_›, trivial⟩
  · cases h
theorem F3_loop38 (N : Nat) : ∀ s o, s = canon (F3_an 38).1 s → (lam N [(17, F3_l17 N), (38, F3_l38 N), (53, F3_l53 N)]).v 38 s = some o → LoopSem Try.prog (nthLoop 38 (Try.f3.body.getD .skip)) s o :=
  loop_ok (tabOf_ok Try.prog) (gam_ok _) mixed F3_an N [(17, F3_l17 N), (38, F3_l38 N), (53, F3_l53 N)] 38 (bodyOf (nthLoop 38 (Try.f3.body.getD .skip))) (nthLoop 38 (Try.f3.body.getD .skip)) (by kernel_rfl) (by
    have e : actOf F3_an (bodyOf (nthLoop 38 (Try.f3.body.getD .skip))) (38 + 1) = [] := by kernel_rfl
    rw [e]
    intro p hp
    cases hp) (F3_l38 N) rfl (fun s x hc h => F3_pat38 N s x hc h) (fun x => rfl) (fun x α kn ke => (F3_body38 N x α kn ke).trans (congrArg ((F3_l38 N).b x α _) (funext fun y => (F3_l38 N).spe y α ke))) (F3_par38 N)
theorem F3_par17 (N : Nat) : Par (F3_l17 N).b := by
  intro x α β kn ke kn' ke' r r' h h1 h2
  revert h
  dsimp only [F3_l17]
  (repeat' (first | (with_reducible refine par_ite ?_ ?_) | (with_reducible refine par_both ?_ ?_) | split)) <;> intro h <;> first | exact h1 _ h | exact h2 _ h | (cases h; done)
theorem F3_body17 (N : Nat) (x : (F3_l17 N).X) (α : Type) (kn : AS → Option α) (ke : Out → Option α) : around (tabOf Try.prog) (F3_g N) F3_an (lam N [(17, F3_l17 N), (38, F3_l38 N), (53, F3_l53 N)]) 17 (bodyOf (nthLoop 17 (Try.f3.body.getD .skip))) ((F3_l17 N).st x) kn ke = (F3_l17 N).b x α (fun x' => kn ((F3_l17 N).st x')) (fun y => (F3_l17 N).sp y α ke) := by kernel_rfl
theorem F3_pat17 (N : Nat) (s : AS) (x : (F3_l17 N).X) (hc : s = canon (F3_an 17).1 s) (h : (F3_l17 N).p s = some x) : s = (F3_l17 N).st x := by
  dsimp only [F3_l17] at h
  split at h
  · cases h
    exact canon_mk hc ‹_› ‹_› rfl rfl rfl ⟨‹_›, ‹_›, ‹_›, ‹_›, ‹_›, ‹_›, ‹_›, trivial⟩ ⟨‹_›, trivial⟩
  · cases h
theorem F3_loop17 (N : Nat) : ∀ s o, s = canon (F3_an 17).1 s → (lam N [(17, F3_l17 N), (38, F3_l38 N), (53, F3_l53 N)]).v 17 s = some o → LoopSem Try.prog (nthLoop 17 (Try.f3.body.getD .skip)) s o :=
  loop_ok (tabOf_ok Try.prog) (gam_ok _) mixed F3_an N [(17, F3_l17 N), (38, F3_l38 N), (53, F3_l53 N)] 17 (bodyOf (nthLoop 17 (Try.f3.body.getD .skip))) (nthLoop 17 (Try.f3.body.getD .skip)) (by kernel_rfl) (by
    have e : actOf F3_an (bodyOf (nthLoop 17 (Try.f3.body.getD .skip))) (17 + 1) = [] := by kernel_rfl
    rw [e]
    intro p hp
    cases hp) (F3_l17 N) rfl (fun s x hc h => F3_pat17 N s x hc h) (fun x => rfl) (fun x α kn ke => (F3_body17 N x α kn ke).trans (congrArg ((F3_l17 N).b x α _) (funext fun y => (F3_l17 N).spe y α ke))) (F3_par17 N)
theorem F3_parF (N : Nat) : ParF (F3_s N).t := by
  intro x α β k k' r r' h h1
  revert h
  dsimp only [F3_s]
  (repeat' (first | (with_reducible refine par_ite ?_ ?_) | (with_reducible refine par_both ?_ ?_) | split)) <;> intro h <;> first | exact h1 _ h | (cases h; done)
theorem F3_text (N : Nat) (x : (F3_s N).X) : acall (tabOf Try.prog) (F3_g N) F3_an (lam N [(17, F3_l17 N), (38, F3_l38 N), (53, F3_l53 N)]) Try.f3 (F3_s N).S ((F3_s N).args x) ((F3_s N).bs x) = (F3_s N).t x Ret (fun y => some ((F3_s N).ret y)) := by kernel_rfl
theorem F3_pat (N : Nat) (a : List AV) (b : List (List AV)) (x : (F3_s N).X) (h : (F3_s N).pat a b = some x) : a = (F3_s N).args x ∧ b = (F3_s N).bs x := by
  dsimp only [F3_s] at h
  split at h
  · cases h; exact ⟨rfl, rfl⟩
  · cases h
noncomputable def F3_e (N : Nat) : Ent Try.prog := entOf (tabOf_ok Try.prog) (gam_ok _) mixed 3 Try.f3 Try.func3 rfl F3_an (lam N [(17, F3_l17 N), (38, F3_l38 N), (53, F3_l53 N)]) (by
    have e : actOf F3_an (Try.f3.body.getD .skip) 0 = [(17, nthLoop 17 (Try.f3.body.getD .skip)), (38, nthLoop 38 (Try.f3.body.getD .skip)), (53, nthLoop 53 (Try.f3.body.getD .skip))] := by kernel_rfl
    rw [e]
    intro p hp
    rcases List.mem_cons.1 hp with rfl | hp
    · exact F3_loop17 N
    rcases List.mem_cons.1 hp with rfl | hp
    · exact F3_loop38 N
    rcases List.mem_cons.1 hp with rfl | hp
    · exact F3_loop53 N
    cases hp) (F3_s N) (fun _ => ⟨rfl, rfl⟩) (F3_text N) (F3_pat N) (F3_parF N)
/-! ### seismonet/seismonetlaw22.DetectorScales (function 4) -/
def F4_an : Nat → Keep × Keep := anL [(15, ⟨[2, 8, 10, 37, 38], [(11, 1), (12, 1)], [8], [(9, 1), (36, 1)], [], [], [], [], false⟩, ⟨[2, 8, 10], [(11, 1), (12, 1)], [8], [(9, 1)], [], [], [], [], false⟩), (32, ⟨[2, 8, 10, 96, 97], [], [8], [(9, 1), (15, 3), (17, 3), (19, 3)], [], [], [], [], false⟩, ⟨[2, 6, 8], [], [8], [(9, 1), (19, 3)], [], [], [], [], false⟩)]
noncomputable def F4_g (N : Nat) : GamK := gam (P := Try.prog) [F8_e N, F9_e N, F10_e N, F11_e N, F12_e N, F13_e N]
noncomputable def F4_l32 (N : Nat) : LSpec where
  X := (List (List AV)) × (List (List AV)) × (List (List AV)) × (List (List AV)) × Int × Int × Int × Int × Int × Int × Int × Int
  Y := ((List (List AV)) × (List (List AV)) × Int × Bool × Int × Int × Int × Int) ⊕ ((List (List AV)) × (List (List AV)) × Int × Int × Int × Int × Int)
  p := fun s => match s.env.length, s.nin, s.at 9, s.at 15, s.at 17, s.at 19, s.at 2, s.at 8, s.at 10, s.at 96, s.at 97, s.bx 8 with
    | 181, 0, (AV.list 1 a0 none), (AV.list 3 a1 none), (AV.list 3 a2 none), (AV.list 3 a3 none), (AV.v (.int .u8 a4)), (AV.ptr 8 0), (AV.v (.int .i64 a5)), (AV.v (.int .i64 a6)), (AV.v (.int .i64 a7)), some [(AV.v (.int .i64 a8)), (AV.v (.int .i64 a9)), (AV.v (.int .i64 a10)), (AV.v (.int .i64 a11))] => some (a0, a1, a2, a3, a4, a5, a6, a7, a8, a9, a10, a11)
    | _, _, _, _, _, _, _, _, _, _, _, _ => none
  st := fun x => mkS 181 [(9, (AV.list 1 x.1 none)), (15, (AV.list 3 x.2.1 none)), (17, (AV.list 3 x.2.2.1 none)), (19, (AV.list 3 x.2.2.2.1 none)), (2, (AV.v (.int .u8 x.2.2.2.2.1))), (8, (AV.ptr 8 0)), (10, (AV.v (.int .i64 x.2.2.2.2.2.1))), (96, (AV.v (.int .i64 x.2.2.2.2.2.2.1))), (97, (AV.v (.int .i64 x.2.2.2.2.2.2.2.1)))] [(8, [(AV.v (.int .i64 x.2.2.2.2.2.2.2.2.1)), (AV.v (.int .i64 x.2.2.2.2.2.2.2.2.2.1)), (AV.v (.int .i64 x.2.2.2.2.2.2.2.2.2.2.1)), (AV.v (.int .i64 x.2.2.2.2.2.2.2.2.2.2.2))])] (F4_an 32).1.toks 0
  out := fun y => match y with
    | .inl y => (.ret, mkS 181 [(9, (AV.list 1 y.1 none)), (19, (AV.list 3 y.2.1 none)), (2, (AV.v (.int .u8 y.2.2.1))), (6, (AV.v (.bool y.2.2.2.1))), (8, (AV.ptr 8 0))] [(8, [(AV.v (.int .i64 y.2.2.2.2.1)), (AV.v (.int .i64 y.2.2.2.2.2.1)), (AV.v (.int .i64 y.2.2.2.2.2.2.1)), (AV.v (.int .i64 y.2.2.2.2.2.2.2))])] (F4_an 32).2.toks 0)
    | .inr y => (.exit 2, mkS 181 [(9, (AV.list 1 y.1 none)), (19, (AV.list 3 y.2.1 none)), (2, (AV.v (.int .u8 y.2.2.1))), (8, (AV.ptr 8 0))] [(8, [(AV.v (.int .i64 y.2.2.2.1)), (AV.v (.int .i64 y.2.2.2.2.1)), (AV.v (.int .i64 y.2.2.2.2.2.1)), (AV.v (.int .i64 y.2.2.2.2.2.2))])] (F4_an 32).2.toks 0)
  sp := fun y α k => match y with
    | .inl y => k (.ret, mkS 181 [(9, (AV.list 1 y.1 none)), (19, (AV.list 3 y.2.1 none)), (2, (AV.v (.int .u8 y.2.2.1))), (6, (AV.v (.bool y.2.2.2.1))), (8, (AV.ptr 8 0))] [(8, [(AV.v (.int .i64 y.2.2.2.2.1)), (AV.v (.int .i64 y.2.2.2.2.2.1)), (AV.v (.int .i64 y.2.2.2.2.2.2.1)), (AV.v (.int .i64 y.2.2.2.2.2.2.2))])] (F4_an 32).2.toks 0)
    | .inr y => k (.exit 2, mkS 181 [(9, (AV.list 1 y.1 none)), (19, (AV.list 3 y.2.1 none)), (2, (AV.v (.int .u8 y.2.2.1))), (8, (AV.ptr 8 0))] [(8, [(AV.v (.int .i64 y.2.2.2.1)), (AV.v (.int .i64 y.2.2.2.2.1)), (AV.v (.int .i64 y.2.2.2.2.2.1)), (AV.v (.int .i64 y.2.2.2.2.2.2))])] (F4_an 32).2.toks 0)
  spe := fun y α k => by rcases y with _ | _ <;> rfl
  b := fun x α kn ke => (match (decide (x.2.2.2.2.2.2.2.1 < x.2.2.2.2.2.2.1)) with | true => (if 0 ≤ x.2.2.2.2.2.2.2.1 then (match x.2.1[x.2.2.2.2.2.2.2.1.toNat]? with | some c42 => (match (c42.drop 0)[0]? with | some x43 => (match x43 with | .v (.int q45 n44) => (if q45 = .i64 then (if 0 ≤ x.2.2.2.2.2.2.2.1 then (match x.2.2.1[x.2.2.2.2.2.2.2.1.toNat]? with | some c46 => (match (c46.drop 0)[0]? with | some x47 => (match x47 with | .v (.int q49 n48) => (if q49 = .i64 then (match (n44 != n48) with | true => (ke (.inl (x.1, x.2.2.2.1, x.2.2.2.2.1, false, x.2.2.2.2.2.2.2.2.1, x.2.2.2.2.2.2.2.2.2.1, x.2.2.2.2.2.2.2.2.2.2.1, x.2.2.2.2.2.2.2.2.2.2.2))) | false => (if 0 ≤ x.2.2.2.2.2.2.2.1 then (match x.2.1[x.2.2.2.2.2.2.2.1.toNat]? with | some c50 => (match (c50.drop 1)[0]? with | some x51 => (match x51 with | .v (.int q53 n52) => (if q53 = .i64 then (if 0 ≤ x.2.2.2.2.2.2.2.1 then (match x.2.2.1[x.2.2.2.2.2.2.2.1.toNat]? with | some c54 => (match (c54.drop 1)[0]? with | some x55 => (match x55 with | .v (.int q57 n56) => (if q57 = .i64 then (match (n52 != n56) with | true => (ke (.inl (x.1, x.2.2.2.1, x.2.2.2.2.1, false, x.2.2.2.2.2.2.2.2.1, x.2.2.2.2.2.2.2.2.2.1, x.2.2.2.2.2.2.2.2.2.2.1, x.2.2.2.2.2.2.2.2.2.2.2))) | false => (if 0 ≤ x.2.2.2.2.2.2.2.1 then (match x.2.1[x.2.2.2.2.2.2.2.1.toNat]? with | some c58 => (match (c58.drop 2)[0]? with | some x59 => (match x59 with | .v (.int q61 n60) => (if q61 = .i64 then (if 0 ≤ x.2.2.2.2.2.2.2.1 then (match x.2.2.1[x.2.2.2.2.2.2.2.1.toNat]? with | some c62 => (match (c62.drop 2)[0]? with | some x63 => (match x63 with | .v (.int q65 n64) => (if q65 = .i64 then (match ((i64 (n60 * (if (i64 (0 - x.2.2.2.2.2.1)) > x.2.2.2.2.2.1 then (i64 (0 - x.2.2.2.2.2.1)) else x.2.2.2.2.2.1))) != n64) with | true => (ke (.inl (x.1, x.2.2.2.1, x.2.2.2.2.1, false, x.2.2.2.2.2.2.2.2.1, x.2.2.2.2.2.2.2.2.2.1, x.2.2.2.2.2.2.2.2.2.2.1, x.2.2.2.2.2.2.2.2.2.2.2))) | false => (kn (x.1, x.2.1, x.2.2.1, x.2.2.2.1, x.2.2.2.2.1, x.2.2.2.2.2.1, x.2.2.2.2.2.2.1, (i64 (x.2.2.2.2.2.2.2.1 + 1)), x.2.2.2.2.2.2.2.2.1, x.2.2.2.2.2.2.2.2.2.1, x.2.2.2.2.2.2.2.2.2.2.1, x.2.2.2.2.2.2.2.2.2.2.2))) else none) | _ => none) | none => none) | none => none) else none) else none) | _ => none) | none => none) | none => none) else none)) else none) | _ => none) | none => none) | none => none) else none) else none) | _ => none) | none => none) | none => none) else none)) else none) | _ => none) | none => none) | none => none) else none) else none) | _ => none) | none => none) | none => none) else none) | false => (ke (.inr (x.1, x.2.2.2.1, x.2.2.2.2.1, x.2.2.2.2.2.2.2.2.1, x.2.2.2.2.2.2.2.2.2.1, x.2.2.2.2.2.2.2.2.2.2.1, x.2.2.2.2.2.2.2.2.2.2.2))))
noncomputable abbrev F4_d32 (N : Nat) (x : (List (List AV)) × (List (List AV)) × (List (List AV)) × (List (List AV)) × Int × Int × Int × Int × Int × Int × Int × Int) : Option (((List (List AV)) × (List (List AV)) × Int × Bool × Int × Int × Int × Int) ⊕ ((List (List AV)) × (List (List AV)) × Int × Int × Int × Int × Int)) := (F4_l32 N).L N x
noncomputable def F4_l15 (N : Nat) : LSpec where
  X := (List (List AV)) × (List (List AV)) × (List (List AV)) × (List (List AV)) × Int × Int × Int × Int × Int × Int × Int × Int
  Y := ((List (List AV)) × (List (List AV)) × (List (List AV)) × Int × Int × Int × Int × Int × Int)
  p := fun s => match s.env.length, s.nin, s.at 11, s.at 12, s.at 9, s.at 36, s.at 2, s.at 8, s.at 10, s.at 37, s.at 38, s.bx 8 with
    | 181, 0, (AV.list 1 a0 (some 1280000704)), (AV.list 1 a1 (some 1280000768)), (AV.list 1 a2 none), (AV.list 1 a3 none), (AV.v (.int .u8 a4)), (AV.ptr 8 0), (AV.v (.int .i64 a5)), (AV.v (.int .i64 a6)), (AV.v (.int .i64 a7)), some [(AV.v (.int .i64 a8)), (AV.v (.int .i64 a9)), (AV.v (.int .i64 a10)), (AV.v (.int .i64 a11))] => some (a0, a1, a2, a3, a4, a5, a6, a7, a8, a9, a10, a11)
    | _, _, _, _, _, _, _, _, _, _, _, _ => none
  st := fun x => mkS 181 [(11, (AV.list 1 x.1 (some 1280000704))), (12, (AV.list 1 x.2.1 (some 1280000768))), (9, (AV.list 1 x.2.2.1 none)), (36, (AV.list 1 x.2.2.2.1 none)), (2, (AV.v (.int .u8 x.2.2.2.2.1))), (8, (AV.ptr 8 0)), (10, (AV.v (.int .i64 x.2.2.2.2.2.1))), (37, (AV.v (.int .i64 x.2.2.2.2.2.2.1))), (38, (AV.v (.int .i64 x.2.2.2.2.2.2.2.1)))] [(8, [(AV.v (.int .i64 x.2.2.2.2.2.2.2.2.1)), (AV.v (.int .i64 x.2.2.2.2.2.2.2.2.2.1)), (AV.v (.int .i64 x.2.2.2.2.2.2.2.2.2.2.1)), (AV.v (.int .i64 x.2.2.2.2.2.2.2.2.2.2.2))])] (F4_an 15).1.toks 0
  out := fun y => (.exit 0, mkS 181 [(11, (AV.list 1 y.1 (some 1280000704))), (12, (AV.list 1 y.2.1 (some 1280000768))), (9, (AV.list 1 y.2.2.1 none)), (2, (AV.v (.int .u8 y.2.2.2.1))), (8, (AV.ptr 8 0)), (10, (AV.v (.int .i64 y.2.2.2.2.1)))] [(8, [(AV.v (.int .i64 y.2.2.2.2.2.1)), (AV.v (.int .i64 y.2.2.2.2.2.2.1)), (AV.v (.int .i64 y.2.2.2.2.2.2.2.1)), (AV.v (.int .i64 y.2.2.2.2.2.2.2.2))])] (F4_an 15).2.toks 0)
  sp := fun y α k => k (.exit 0, mkS 181 [(11, (AV.list 1 y.1 (some 1280000704))), (12, (AV.list 1 y.2.1 (some 1280000768))), (9, (AV.list 1 y.2.2.1 none)), (2, (AV.v (.int .u8 y.2.2.2.1))), (8, (AV.ptr 8 0)), (10, (AV.v (.int .i64 y.2.2.2.2.1)))] [(8, [(AV.v (.int .i64 y.2.2.2.2.2.1)), (AV.v (.int .i64 y.2.2.2.2.2.2.1)), (AV.v (.int .i64 y.2.2.2.2.2.2.2.1)), (AV.v (.int .i64 y.2.2.2.2.2.2.2.2))])] (F4_an 15).2.toks 0)
  spe := fun y α k => rfl
  b := fun x α kn ke => (match (decide (x.2.2.2.2.2.2.2.1 < x.2.2.2.2.2.2.1)) with | true => (if 0 ≤ x.2.2.2.2.2.2.2.1 then (match x.2.2.2.1[x.2.2.2.2.2.2.2.1.toNat]? with | some c10 => (match c10[0]? with | some x11 => (match x11 with | .v (.int q13 n12) => (if q13 = .i64 then (if (x.1.length + [[(AV.v (.int .i64 (i64 (n12 * x.2.2.2.2.2.1))))]].length) * 8 ≤ maxBytes then (if (x.2.1.length + [[(AV.v (.int .i64 (i64 ((IntKind.i64.wrap x.2.2.2.2.1) * (i64 (1 - (i64 (2 * (x.2.2.2.2.2.2.2.1.tmod 2)))))))))]].length) * 8 ≤ maxBytes then (kn ((x.1 ++ [[(AV.v (.int .i64 (i64 (n12 * x.2.2.2.2.2.1))))]]), (x.2.1 ++ [[(AV.v (.int .i64 (i64 ((IntKind.i64.wrap x.2.2.2.2.1) * (i64 (1 - (i64 (2 * (x.2.2.2.2.2.2.2.1.tmod 2)))))))))]]), x.2.2.1, x.2.2.2.1, x.2.2.2.2.1, x.2.2.2.2.2.1, x.2.2.2.2.2.2.1, (i64 (x.2.2.2.2.2.2.2.1 + 1)), x.2.2.2.2.2.2.2.2.1, x.2.2.2.2.2.2.2.2.2.1, x.2.2.2.2.2.2.2.2.2.2.1, x.2.2.2.2.2.2.2.2.2.2.2)) else none) else none) else none) | _ => none) | none => none) | none => none) else none) | false => (ke (x.1, x.2.1, x.2.2.1, x.2.2.2.2.1, x.2.2.2.2.2.1, x.2.2.2.2.2.2.2.2.1, x.2.2.2.2.2.2.2.2.2.1, x.2.2.2.2.2.2.2.2.2.2.1, x.2.2.2.2.2.2.2.2.2.2.2)))
noncomputable abbrev F4_d15 (N : Nat) (x : (List (List AV)) × (List (List AV)) × (List (List AV)) × (List (List AV)) × Int × Int × Int × Int × Int × Int × Int × Int) : Option (((List (List AV)) × (List (List AV)) × (List (List AV)) × Int × Int × Int × Int × Int × Int)) := (F4_l15 N).L N x
noncomputable def F4_s (N : Nat) : FSpec where
  X := (List (List AV)) × Int × Int
  Y := Bool
  ash := [[some 1], [none], [none]]
  bsh := []
  S := ⟨[[none]], [], [], [], []⟩
  bm := false
  pat := fun a b => match a, b with
    | [(AV.list 1 a0 none), (AV.v (.int .i8 a1)), (AV.v (.int .u8 a2))], [] => some (a0, a1, a2)
    | _, _ => none
  args := fun x => [(AV.list 1 x.1 none), (AV.v (.int .i8 x.2.1)), (AV.v (.int .u8 x.2.2))]
  bs := fun x => []
  ret := fun y => ⟨(AV.v (.bool y)), [], none, [], [], []⟩
  t := fun x α k => (match F8_d N x.1 with | some y1 => (match (!y1) with | true => (match F9_d N () with | some y2 => (k y2) | none => none) | false => (match F10_d N x.1 with | some y3 => (match F11_d N (y3.1, y3.2) with | some y4 => (match F12_d N (40, y4.2.2.2.2.1, y4.2.2.2.2.2) with | some y5 => (match ((IntKind.i64.wrap x.2.1) == 0) with | true => (match F4_d15 N (([] : List (List AV)), ([] : List (List AV)), y5.1, y5.1, x.2.2, 5, (y5.1.length : Int), 0, y4.1, y4.2.1, y4.2.2.1, y4.2.2.2.1) with | some y14 => (match F13_d N (y14.2.2.2.2.2.1, y14.2.2.2.2.2.2.1, y14.2.2.2.2.2.2.2.1, y14.2.2.2.2.2.2.2.2, y14.2.2.1) with | some y15 => (match F13_d N (y14.2.2.2.2.2.1, y14.2.2.2.2.2.2.1, y14.2.2.2.2.2.2.2.1, y14.2.2.2.2.2.2.2.2, y14.1) with | some y16 => (match F13_d N (y14.2.2.2.2.2.1, y14.2.2.2.2.2.2.1, y14.2.2.2.2.2.2.2.1, y14.2.2.2.2.2.2.2.2, y14.2.1) with | some y17 => (match (y15.2 != 0) with | true => (k false) | false => (match (y16.2 != 0) with | true => (k false) | false => (match (y17.2 != 0) with | true => (k false) | false => (match ((y15.1.length : Int) != (y16.1.length : Int)) with | true => (k false) | false => (match F4_d32 N (y14.2.2.1, y15.1, y16.1, y17.1, y14.2.2.2.1, y14.2.2.2.2.1, (y15.1.length : Int), 0, y14.2.2.2.2.2.1, y14.2.2.2.2.2.2.1, y14.2.2.2.2.2.2.2.1, y14.2.2.2.2.2.2.2.2) with | some y66 => (match y66 with | .inl z67 => (k z67.2.2.2.1) | .inr z68 => (match (decide (z68.2.2.2.2.2.1 > 100)) with | true => (match ((z68.2.1.length : Int) == 0) with | true => (match F9_d N () with | some y69 => (k y69) | none => none) | false => (k false)) | false => (match (z68.2.2.1 == 0) with | true => (match ((z68.2.1.length : Int) == 0) with | true => (match F9_d N () with | some y70 => (k y70) | none => none) | false => (k false)) | false => (match (decide ((z68.1.length : Int) < z68.2.2.2.2.1)) with | true => (match ((z68.2.1.length : Int) == 0) with | true => (match F9_d N () with | some y71 => (k y71) | none => none) | false => (k false)) | false => (match ((z68.2.1.length : Int) == 1) with | true => (if 0 ≤ (0 : Int) then (match z68.2.1[(0 : Int).toNat]? with | some c72 => (match c72[0]? with | some x73 => (match x73 with | .v (.int q75 n74) => (if q75 = .i64 then (match c72[1]? with | some x76 => (match x76 with | .v (.int q78 n77) => (if q78 = .i64 then (match c72[2]? with | some x79 => (match x79 with | .v (.int q81 n80) => (if q81 = .i64 then (match ((n74 == (i64 (z68.2.2.2.2.1 - 1))) && ((n77 == (-1)) && ((n80 == (IntKind.i64.wrap z68.2.2.1)) && true))) with | true => (match F9_d N () with | some y82 => (k y82) | none => none) | false => (k false)) else none) | _ => none) | none => none) else none) | _ => none) | none => none) else none) | _ => none) | none => none) | none => none) else none) | false => (k false)))))) | none => none))))) | none => none) | none => none) | none => none) | none => none) | false => (match F4_d15 N (([] : List (List AV)), ([] : List (List AV)), y5.1, y5.1, x.2.2, (IntKind.i64.wrap x.2.1), (y5.1.length : Int), 0, y4.1, y4.2.1, y4.2.2.1, y4.2.2.2.1) with | some y83 => (match F13_d N (y83.2.2.2.2.2.1, y83.2.2.2.2.2.2.1, y83.2.2.2.2.2.2.2.1, y83.2.2.2.2.2.2.2.2, y83.2.2.1) with | some y84 => (match F13_d N (y83.2.2.2.2.2.1, y83.2.2.2.2.2.2.1, y83.2.2.2.2.2.2.2.1, y83.2.2.2.2.2.2.2.2, y83.1) with | some y85 => (match F13_d N (y83.2.2.2.2.2.1, y83.2.2.2.2.2.2.1, y83.2.2.2.2.2.2.2.1, y83.2.2.2.2.2.2.2.2, y83.2.1) with | some y86 => (match (y84.2 != 0) with | true => (k false) | false => (match (y85.2 != 0) with | true => (k false) | false => (match (y86.2 != 0) with | true => (k false) | false => (match ((y84.1.length : Int) != (y85.1.length : Int)) with | true => (k false) | false => (match F4_d32 N (y83.2.2.1, y84.1, y85.1, y86.1, y83.2.2.2.1, y83.2.2.2.2.1, (y84.1.length : Int), 0, y83.2.2.2.2.2.1, y83.2.2.2.2.2.2.1, y83.2.2.2.2.2.2.2.1, y83.2.2.2.2.2.2.2.2) with | some y87 => (match y87 with | .inl z88 => (k z88.2.2.2.1) | .inr z89 => (match (decide (z89.2.2.2.2.2.1 > 100)) with | true => (match ((z89.2.1.length : Int) == 0) with | true => (match F9_d N () with | some y90 => (k y90) | none => none) | false => (k false)) | false => (match (z89.2.2.1 == 0) with | true => (match ((z89.2.1.length : Int) == 0) with | true => (match F9_d N () with | some y91 => (k y91) | none => none) | false => (k false)) | false => (match (decide ((z89.1.length : Int) < z89.2.2.2.2.1)) with | true => (match ((z89.2.1.length : Int) == 0) with | true => (match F9_d N () with | some y92 => (k y92) | none => none) | false => (k false)) | false => (match ((z89.2.1.length : Int) == 1) with | true => (if 0 ≤ (0 : Int) then (match z89.2.1[(0 : Int).toNat]? with | some c93 => (match c93[0]? with | some x94 => (match x94 with | .v (.int q96 n95) => (if q96 = .i64 then (match c93[1]? with | some x97 => (match x97 with | .v (.int q99 n98) => (if q99 = .i64 then (match c93[2]? with | some x100 => (match x100 with | .v (.int q102 n101) => (if q102 = .i64 then (match ((n95 == (i64 (z89.2.2.2.2.1 - 1))) && ((n98 == (-1)) && ((n101 == (IntKind.i64.wrap z89.2.2.1)) && true))) with | true => (match F9_d N () with | some y103 => (k y103) | none => none) | false => (k false)) else none) | _ => none) | none => none) else none) | _ => none) | none => none) else none) | _ => none) | none => none) | none => none) else none) | false => (k false)))))) | none => none))))) | none => none) | none => none) | none => none) | none => none)) | none => none) | none => none) | none => none)) | none => none)
noncomputable abbrev F4_d (N : Nat) (x : (List (List AV)) × Int × Int) : Option (Bool) := (F4_s N).d x
theorem F4_par32 (N : Nat) : Par (F4_l32 N).b := by
  intro x α β kn ke kn' ke' r r' h h1 h2
  revert h
  dsimp only [F4_l32]
  (repeat' (first | (with_reducible refine par_ite ?_ ?_) | (with_reducible refine par_both ?_ ?_) | split)) <;> intro h <;> first | exact h1 _ h | exact h2 _ h | (cases h; done)
theorem F4_body32 (N : Nat) (x : (F4_l32 N).X) (α : Type) (kn : AS → Option α) (ke : Out → Option α) : around (tabOf Try.prog) (F4_g N) F4_an (lam N [(15, F4_l15 N), (32, F4_l32 N)]) 32 (bodyOf (nthLoop 32 (Try.f4.body.getD .skip))) ((F4_l32 N).st x) kn ke = (F4_l32 N).b x α (fun x' => kn ((F4_l32 N).st x')) (fun y => (F4_l32 N).sp y α ke) := by kernel_rfl
theorem F4_pat32 (N : Nat) (s : AS) (x : (F4_l32 N).X) (hc : s = canon (F4_an 32).1 s) (h : (F4_l32 N).p s = some x) : s = (F4_l32 N).st x := by
  dsimp only [F4_l32] at h
  split at h
  · cases h
    exact canon_mk hc ‹_› ‹_› rfl rfl rfl ⟨‹_›, ‹_›, ‹_›, ‹_›, ‹_›, ‹_›, ‹_›, ‹_›, ‹_›, trivial⟩ ⟨‹_›, trivial⟩
  · cases h
theorem F4_loop32 (N : Nat) : ∀ s o, s = canon (F4_an 32).1 s → (lam N [(15, F4_l15 N), (32, F4_l32 N)]).v 32 s = some o → LoopSem Try.prog (nthLoop 32 (Try.f4.body.getD .skip)) s o :=
  loop_ok (tabOf_ok Try.prog) (gam_ok _) mixed F4_an N [(15, F4_l15 N), (32, F4_l32 N)] 32 (bodyOf (nthLoop 32 (Try.f4.body.getD .skip))) (nthLoop 32 (Try.f4.body.getD .skip)) (by kernel_rfl) (by
    have e : actOf F4_an (bodyOf (nthLoop 32 (Try.f4.body.getD .skip))) (32 + 1) = [] := by kernel_rfl
    rw [e]
    intro p hp
    cases hp) (F4_l32 N) rfl (fun s x hc h => F4_pat32 N s x hc h) (fun x => rfl) (fun x α kn ke => (F4_body32 N x α kn ke).trans (congrArg ((F4_l32 N).b x α _) (funext fun y => (F4_l32 N).spe y α ke))) (F4_par32 N)
theorem F4_par15 (N : Nat) : Par (F4_l15 N).b := by
  intro x α β kn ke kn' ke' r r' h h1 h2
  revert h
  dsimp only [F4_l15]
  (repeat' (first | (with_reducible refine par_ite ?_ ?_) | (with_reducible refine par_both ?_ ?_) | split)) <;> intro h <;> first | exact h1 _ h | exact h2 _ h | (cases h; done)
theorem F4_body15 (N : Nat) (x : (F4_l15 N).X) (α : Type) (kn : AS → Option α) (ke : Out → Option α) : around (tabOf Try.prog) (F4_g N) F4_an (lam N [(15, F4_l15 N), (32, F4_l32 N)]) 15 (bodyOf (nthLoop 15 (Try.f4.body.getD .skip))) ((F4_l15 N).st x) kn ke = (F4_l15 N).b x α (fun x' => kn ((F4_l15 N).st x')) (fun y => (F4_l15 N).sp y α ke) := by kernel_rfl
theorem F4_pat15 (N : Nat) (s : AS) (x : (F4_l15 N).X) (hc : s = canon (F4_an 15).1 s) (h : (F4_l15 N).p s = some x) : s = (F4_l15 N).st x := by
  dsimp only [F4_l15] at h
  split at h
  · cases h
    exact canon_mk hc ‹_› ‹_› rfl rfl rfl ⟨‹_›, ‹_›, ‹_›, ‹_›, ‹_›, ‹_›, ‹_›, ‹_›, ‹_›, trivial⟩ ⟨‹_›, trivial⟩
  · cases h
theorem F4_loop15 (N : Nat) : ∀ s o, s = canon (F4_an 15).1 s → (lam N [(15, F4_l15 N), (32, F4_l32 N)]).v 15 s = some o → LoopSem Try.prog (nthLoop 15 (Try.f4.body.getD .skip)) s o :=
  loop_ok (tabOf_ok Try.prog) (gam_ok _) mixed F4_an N [(15, F4_l15 N), (32, F4_l32 N)] 15 (bodyOf (nthLoop 15 (Try.f4.body.getD .skip))) (nthLoop 15 (Try.f4.body.getD .skip)) (by kernel_rfl) (by
    have e : actOf F4_an (bodyOf (nthLoop 15 (Try.f4.body.getD .skip))) (15 + 1) = [] := by kernel_rfl
    rw [e]
    intro p hp
    cases hp) (F4_l15 N) rfl (fun s x hc h => F4_pat15 N s x hc h) (fun x => rfl) (fun x α kn ke => (F4_body15 N x α kn ke).trans (congrArg ((F4_l15 N).b x α _) (funext fun y => (F4_l15 N).spe y α ke))) (F4_par15 N)
theorem F4_parF (N : Nat) : ParF (F4_s N).t := by
  intro x α β k k' r r' h h1
  revert h
  dsimp only [F4_s]
  (repeat' (first | (with_reducible refine par_ite ?_ ?_) | (with_reducible refine par_both ?_ ?_) | split)) <;> intro h <;> first | exact h1 _ h | (cases h; done)
theorem F4_text (N : Nat) (x : (F4_s N).X) : acall (tabOf Try.prog) (F4_g N) F4_an (lam N [(15, F4_l15 N), (32, F4_l32 N)]) Try.f4 (F4_s N).S ((F4_s N).args x) ((F4_s N).bs x) = (F4_s N).t x Ret (fun y => some ((F4_s N).ret y)) := by kernel_rfl
theorem F4_pat (N : Nat) (a : List AV) (b : List (List AV)) (x : (F4_s N).X) (h : (F4_s N).pat a b = some x) : a = (F4_s N).args x ∧ b = (F4_s N).bs x := by
  dsimp only [F4_s] at h
  split at h
  · cases h; exact ⟨rfl, rfl⟩
  · cases h
noncomputable def F4_e (N : Nat) : Ent Try.prog := entOf (tabOf_ok Try.prog) (gam_ok _) mixed 4 Try.f4 Try.func4 rfl F4_an (lam N [(15, F4_l15 N), (32, F4_l32 N)]) (by
    have e : actOf F4_an (Try.f4.body.getD .skip) 0 = [(15, nthLoop 15 (Try.f4.body.getD .skip)), (32, nthLoop 32 (Try.f4.body.getD .skip))] := by kernel_rfl
    rw [e]
    intro p hp
    rcases List.mem_cons.1 hp with rfl | hp
    · exact F4_loop15 N
    rcases List.mem_cons.1 hp with rfl | hp
    · exact F4_loop32 N
    cases hp) (F4_s N) (fun _ => ⟨rfl, rfl⟩) (F4_text N) (F4_pat N) (F4_parF N)
/-! ### seismonet/detector.Ratio (function 16) -/
def F16_an : Nat → Keep × Keep := anL []
noncomputable def F16_g (N : Nat) : GamK := gam (P := Try.prog) [F25_e N, F33_e N, F37_e N, F38_e N]
noncomputable def F16_s (N : Nat) : FSpec where
  X := Int × Int × Int × Int × (List (List AV)) × Int
  Y := Int × Int × Int
  ash := [[none, none, none, none], [some 1], [none]]
  bsh := []
  S := ⟨[[none], [none], [none]], [], [], [], []⟩
  bm := false
  pat := fun a b => match a, b with
    | [(AV.agg [(AV.v (.int .i64 a0)), (AV.v (.int .i64 a1)), (AV.v (.int .i64 a2)), (AV.v (.int .i64 a3))]), (AV.list 1 a4 none), (AV.v (.int .i64 a5))], [] => some (a0, a1, a2, a3, a4, a5)
    | _, _ => none
  args := fun x => [(AV.agg [(AV.v (.int .i64 x.1)), (AV.v (.int .i64 x.2.1)), (AV.v (.int .i64 x.2.2.1)), (AV.v (.int .i64 x.2.2.2.1))]), (AV.list 1 x.2.2.2.2.1 none), (AV.v (.int .i64 x.2.2.2.2.2))]
  bs := fun x => []
  ret := fun y => ⟨(AV.tup [(AV.v (.int .i64 y.1)), (AV.v (.int .i64 y.2.1)), (AV.v (.int .i64 y.2.2))]), [], none, [], [], []⟩
  t := fun x α k => (match F25_d N (x.1, x.2.1, x.2.2.1, x.2.2.2.1) with | some y1 => (match (!y1) with | true => (k (0, 0, 1)) | false => (match (decide ((x.2.2.2.2.1.length : Int) > 65536)) with | true => (k (0, 0, 8)) | false => (match F33_d N x.2.2.2.2.1 with | some y2 => (match y2 with | true => (k (0, 0, 2)) | false => (match F37_d N (x.2.2.2.2.2, (i64 (x.2.1 - 1)), (i64 ((x.2.2.2.2.1.length : Int) - 1))) with | some y3 => (match (!y3) with | true => (k (0, 0, 2)) | false => (if 0 ≤ (i64 ((i64 (x.2.2.2.2.2 - x.1)) + 1)) ∧ (i64 ((i64 (x.2.2.2.2.2 - x.1)) + 1)) ≤ (i64 (x.2.2.2.2.2 + 1)) ∧ (i64 (x.2.2.2.2.2 + 1)) ≤ x.2.2.2.2.1.length then (match F38_d N ((x.2.2.2.2.1.take (i64 (x.2.2.2.2.2 + 1)).toNat).drop (i64 ((i64 (x.2.2.2.2.2 - x.1)) + 1)).toNat) with | some y4 => (if 0 ≤ (i64 ((i64 (x.2.2.2.2.2 - x.2.1)) + 1)) ∧ (i64 ((i64 (x.2.2.2.2.2 - x.2.1)) + 1)) ≤ (i64 (x.2.2.2.2.2 + 1)) ∧ (i64 (x.2.2.2.2.2 + 1)) ≤ x.2.2.2.2.1.length then (match F38_d N ((x.2.2.2.2.1.take (i64 (x.2.2.2.2.2 + 1)).toNat).drop (i64 ((i64 (x.2.2.2.2.2 - x.2.1)) + 1)).toNat) with | some y5 => (k (y4, y5, 0)) | none => none) else none) | none => none) else none)) | none => none)) | none => none))) | none => none)
noncomputable abbrev F16_d (N : Nat) (x : Int × Int × Int × Int × (List (List AV)) × Int) : Option (Int × Int × Int) := (F16_s N).d x
theorem F16_parF (N : Nat) : ParF (F16_s N).t := by
  intro x α β k k' r r' h h1
  revert h
  dsimp only [F16_s]
  (repeat' (first | (with_reducible refine par_ite ?_ ?_) | (with_reducible refine par_both ?_ ?_) | split)) <;> intro h <;> first | exact h1 _ h | (cases h; done)
theorem F16_text (N : Nat) (x : (F16_s N).X) : acall (tabOf Try.prog) (F16_g N) F16_an (lam N []) Try.f16 (F16_s N).S ((F16_s N).args x) ((F16_s N).bs x) = (F16_s N).t x Ret (fun y => some ((F16_s N).ret y)) := by kernel_rfl
theorem F16_pat (N : Nat) (a : List AV) (b : List (List AV)) (x : (F16_s N).X) (h : (F16_s N).pat a b = some x) : a = (F16_s N).args x ∧ b = (F16_s N).bs x := by
  dsimp only [F16_s] at h
  split at h
  · cases h; exact ⟨rfl, rfl⟩
  · cases h
noncomputable def F16_e (N : Nat) : Ent Try.prog := entOf (tabOf_ok Try.prog) (gam_ok _) mixed 16 Try.f16 Try.func16 rfl F16_an (lam N []) (by
    have e : actOf F16_an (Try.f16.body.getD .skip) 0 = [] := by kernel_rfl
    rw [e]
    intro p hp
    cases hp) (F16_s N) (fun _ => ⟨rfl, rfl⟩) (F16_text N) (F16_pat N) (F16_parF N)
/-! ### seismonet/seismonetlaw22.DetectorTriggers$1 (function 17) -/
def F17_an : Nat → Keep × Keep := anL []
noncomputable def F17_g (N : Nat) : GamK := gam (P := Try.prog) []
noncomputable def F17_s (N : Nat) : FSpec where
  X := Int × Int × Int × Int × Int × Int × Int
  Y := Bool × Int × Int × Int × Int × Int × Int
  ash := [[none], [none], [none], [none]]
  bsh := [[none], [none], [none, none, none, none]]
  S := ⟨[[none]], [[none], [none], [none, none, none, none]], [], [], []⟩
  bm := false
  pat := fun a b => match a, b with
    | [(AV.v (.int .i64 a0)), (AV.ptr 0 0), (AV.ptr 1 0), (AV.ptr 2 0)], [[(AV.v (.int .i64 a1))], [(AV.v (.int .i64 a2))], [(AV.v (.int .i64 a3)), (AV.v (.int .i64 a4)), (AV.v (.int .i64 a5)), (AV.v (.int .i64 a6))]] => some (a0, a1, a2, a3, a4, a5, a6)
    | _, _ => none
  args := fun x => [(AV.v (.int .i64 x.1)), (AV.ptr 0 0), (AV.ptr 1 0), (AV.ptr 2 0)]
  bs := fun x => [[(AV.v (.int .i64 x.2.1))], [(AV.v (.int .i64 x.2.2.1))], [(AV.v (.int .i64 x.2.2.2.1)), (AV.v (.int .i64 x.2.2.2.2.1)), (AV.v (.int .i64 x.2.2.2.2.2.1)), (AV.v (.int .i64 x.2.2.2.2.2.2))]]
  ret := fun y => ⟨(AV.v (.bool y.1)), [[(AV.v (.int .i64 y.2.1))], [(AV.v (.int .i64 y.2.2.1))], [(AV.v (.int .i64 y.2.2.2.1)), (AV.v (.int .i64 y.2.2.2.2.1)), (AV.v (.int .i64 y.2.2.2.2.2.1)), (AV.v (.int .i64 y.2.2.2.2.2.2))]], none, [], [], []⟩
  t := fun x α k => (match (decide (x.2.1 > 0)) with | true => (k ((decide ((i64 ((i64 (100 * x.2.2.1)) * x.2.2.2.2.1)) ≥ (i64 ((i64 (x.1 * x.2.1)) * x.2.2.2.1)))), x.2.1, x.2.2.1, x.2.2.2.1, x.2.2.2.2.1, x.2.2.2.2.2.1, x.2.2.2.2.2.2)) | false => (k (false, x.2.1, x.2.2.1, x.2.2.2.1, x.2.2.2.2.1, x.2.2.2.2.2.1, x.2.2.2.2.2.2)))
noncomputable abbrev F17_d (N : Nat) (x : Int × Int × Int × Int × Int × Int × Int) : Option (Bool × Int × Int × Int × Int × Int × Int) := (F17_s N).d x
theorem F17_parF (N : Nat) : ParF (F17_s N).t := by
  intro x α β k k' r r' h h1
  revert h
  dsimp only [F17_s]
  (repeat' (first | (with_reducible refine par_ite ?_ ?_) | (with_reducible refine par_both ?_ ?_) | split)) <;> intro h <;> first | exact h1 _ h | (cases h; done)
theorem F17_text (N : Nat) (x : (F17_s N).X) : acall (tabOf Try.prog) (F17_g N) F17_an (lam N []) Try.f17 (F17_s N).S ((F17_s N).args x) ((F17_s N).bs x) = (F17_s N).t x Ret (fun y => some ((F17_s N).ret y)) := by kernel_rfl
theorem F17_pat (N : Nat) (a : List AV) (b : List (List AV)) (x : (F17_s N).X) (h : (F17_s N).pat a b = some x) : a = (F17_s N).args x ∧ b = (F17_s N).bs x := by
  dsimp only [F17_s] at h
  split at h
  · cases h; exact ⟨rfl, rfl⟩
  · cases h
noncomputable def F17_e (N : Nat) : Ent Try.prog := entOf (tabOf_ok Try.prog) (gam_ok _) mixed 17 Try.f17 Try.func17 rfl F17_an (lam N []) (by
    have e : actOf F17_an (Try.f17.body.getD .skip) 0 = [] := by kernel_rfl
    rw [e]
    intro p hp
    cases hp) (F17_s N) (fun _ => ⟨rfl, rfl⟩) (F17_text N) (F17_pat N) (F17_parF N)
/-! ### seismonet/seismonetlaw22.DetectorTriggers (function 5) -/
def F5_an : Nat → Keep × Keep := anL [(16, ⟨[4, 8, 9, 10], [], [4], [(5, 1), (6, 3)], [], [], [], [], false⟩, ⟨[2, 8, 9], [], [], [(5, 1), (6, 3)], [], [], [], [], false⟩), (44, ⟨[8, 9, 99, 100], [], [], [(5, 1), (6, 3), (98, 3)], [], [], [], [], false⟩, ⟨[2, 8, 9], [], [], [(6, 3)], [], [], [], [], false⟩), (59, ⟨[8, 9, 15, 16, 17, 18, 19, 99, 100], [], [16], [(5, 1), (6, 3), (98, 3)], [], [], [], [], false⟩, ⟨[8, 9, 15, 16, 17, 18, 99, 100], [], [16], [(5, 1), (6, 3), (98, 3)], [], [], [], [], false⟩)]
noncomputable def F5_g (N : Nat) : GamK := gam (P := Try.prog) [F8_e N, F9_e N, F10_e N, F11_e N, F12_e N, F13_e N, F16_e N, F17_e N]
noncomputable def F5_l59 (N : Nat) : LSpec where
  X := (List (List AV)) × (List (List AV)) × (List (List AV)) × Bool × Int × Int × Int × Int × Int × Int × Int × Int × Int × Int
  Y := ((List (List AV)) × (List (List AV)) × (List (List AV)) × Bool × Int × Int × Int × Int × Int × Int × Int × Int × Int)
  p := fun s => match s.env.length, s.nin, s.at 5, s.at 6, s.at 98, s.at 8, s.at 9, s.at 15, s.at 16, s.at 17, s.at 18, s.at 19, s.at 99, s.at 100, s.bx 16 with
    | 189, 0, (AV.list 1 a0 none), (AV.list 3 a1 none), (AV.list 3 a2 none), (AV.v (.bool a3)), (AV.v (.int .i64 a4)), (AV.v (.int .i64 a5)), (AV.ptr 16 0), (AV.v (.int .i64 a6)), (AV.v (.int .i64 a7)), (AV.v (.int .i64 a8)), (AV.v (.int .i64 a9)), (AV.v (.int .i64 a10)), some [(AV.v (.int .i64 a11)), (AV.v (.int .i64 a12)), (AV.v (.int .i64 a13))] => some (a0, a1, a2, a3, a4, a5, a6, a7, a8, a9, a10, a11, a12, a13)
    | _, _, _, _, _, _, _, _, _, _, _, _, _, _, _ => none
  st := fun x => mkS 189 [(5, (AV.list 1 x.1 none)), (6, (AV.list 3 x.2.1 none)), (98, (AV.list 3 x.2.2.1 none)), (8, (AV.v (.bool x.2.2.2.1))), (9, (AV.v (.int .i64 x.2.2.2.2.1))), (15, (AV.v (.int .i64 x.2.2.2.2.2.1))), (16, (AV.ptr 16 0)), (17, (AV.v (.int .i64 x.2.2.2.2.2.2.1))), (18, (AV.v (.int .i64 x.2.2.2.2.2.2.2.1))), (19, (AV.v (.int .i64 x.2.2.2.2.2.2.2.2.1))), (99, (AV.v (.int .i64 x.2.2.2.2.2.2.2.2.2.1))), (100, (AV.v (.int .i64 x.2.2.2.2.2.2.2.2.2.2.1)))] [(16, [(AV.v (.int .i64 x.2.2.2.2.2.2.2.2.2.2.2.1)), (AV.v (.int .i64 x.2.2.2.2.2.2.2.2.2.2.2.2.1)), (AV.v (.int .i64 x.2.2.2.2.2.2.2.2.2.2.2.2.2))])] (F5_an 59).1.toks 0
  out := fun y => (.exit 5, mkS 189 [(5, (AV.list 1 y.1 none)), (6, (AV.list 3 y.2.1 none)), (98, (AV.list 3 y.2.2.1 none)), (8, (AV.v (.bool y.2.2.2.1))), (9, (AV.v (.int .i64 y.2.2.2.2.1))), (15, (AV.v (.int .i64 y.2.2.2.2.2.1))), (16, (AV.ptr 16 0)), (17, (AV.v (.int .i64 y.2.2.2.2.2.2.1))), (18, (AV.v (.int .i64 y.2.2.2.2.2.2.2.1))), (99, (AV.v (.int .i64 y.2.2.2.2.2.2.2.2.1))), (100, (AV.v (.int .i64 y.2.2.2.2.2.2.2.2.2.1)))] [(16, [(AV.v (.int .i64 y.2.2.2.2.2.2.2.2.2.2.1)), (AV.v (.int .i64 y.2.2.2.2.2.2.2.2.2.2.2.1)), (AV.v (.int .i64 y.2.2.2.2.2.2.2.2.2.2.2.2))])] (F5_an 59).2.toks 0)
  sp := fun y α k => k (.exit 5, mkS 189 [(5, (AV.list 1 y.1 none)), (6, (AV.list 3 y.2.1 none)), (98, (AV.list 3 y.2.2.1 none)), (8, (AV.v (.bool y.2.2.2.1))), (9, (AV.v (.int .i64 y.2.2.2.2.1))), (15, (AV.v (.int .i64 y.2.2.2.2.2.1))), (16, (AV.ptr 16 0)), (17, (AV.v (.int .i64 y.2.2.2.2.2.2.1))), (18, (AV.v (.int .i64 y.2.2.2.2.2.2.2.1))), (99, (AV.v (.int .i64 y.2.2.2.2.2.2.2.2.1))), (100, (AV.v (.int .i64 y.2.2.2.2.2.2.2.2.2.1)))] [(16, [(AV.v (.int .i64 y.2.2.2.2.2.2.2.2.2.2.1)), (AV.v (.int .i64 y.2.2.2.2.2.2.2.2.2.2.2.1)), (AV.v (.int .i64 y.2.2.2.2.2.2.2.2.2.2.2.2))])] (F5_an 59).2.toks 0)
  spe := fun y α k => rfl
  b := fun x α kn ke => (match (decide (x.2.2.2.2.2.2.2.2.1 < x.2.2.2.2.2.2.1)) with | true => (if 0 ≤ x.2.2.2.2.2.2.2.2.1 then (match x.1[x.2.2.2.2.2.2.2.2.1.toNat]? with | some c44 => (match c44[0]? with | some x45 => (match x45 with | .v (.int q47 n46) => (if q47 = .i64 then (if 0 ≤ x.2.2.2.2.2.2.2.2.1 then (match x.1[x.2.2.2.2.2.2.2.2.1.toNat]? with | some c48 => (match c48[0]? with | some x49 => (match x49 with | .v (.int q51 n50) => (if q51 = .i64 then (kn (x.1, x.2.1, x.2.2.1, x.2.2.2.1, x.2.2.2.2.1, x.2.2.2.2.2.1, x.2.2.2.2.2.2.1, (if (if (i64 (0 - n50)) > n46 then (i64 (0 - n50)) else n46) > x.2.2.2.2.2.2.2.1 then (if (i64 (0 - n50)) > n46 then (i64 (0 - n50)) else n46) else x.2.2.2.2.2.2.2.1), (i64 (x.2.2.2.2.2.2.2.2.1 + 1)), x.2.2.2.2.2.2.2.2.2.1, x.2.2.2.2.2.2.2.2.2.2.1, x.2.2.2.2.2.2.2.2.2.2.2.1, x.2.2.2.2.2.2.2.2.2.2.2.2.1, x.2.2.2.2.2.2.2.2.2.2.2.2.2)) else none) | _ => none) | none => none) | none => none) else none) else none) | _ => none) | none => none) | none => none) else none) | false => (ke (x.1, x.2.1, x.2.2.1, x.2.2.2.1, x.2.2.2.2.1, x.2.2.2.2.2.1, x.2.2.2.2.2.2.1, x.2.2.2.2.2.2.2.1, x.2.2.2.2.2.2.2.2.2.1, x.2.2.2.2.2.2.2.2.2.2.1, x.2.2.2.2.2.2.2.2.2.2.2.1, x.2.2.2.2.2.2.2.2.2.2.2.2.1, x.2.2.2.2.2.2.2.2.2.2.2.2.2)))
noncomputable abbrev F5_d59 (N : Nat) (x : (List (List AV)) × (List (List AV)) × (List (List AV)) × Bool × Int × Int × Int × Int × Int × Int × Int × Int × Int × Int) : Option (((List (List AV)) × (List (List AV)) × (List (List AV)) × Bool × Int × Int × Int × Int × Int × Int × Int × Int × Int)) := (F5_l59 N).L N x
noncomputable def F5_l44 (N : Nat) : LSpec where
  X := (List (List AV)) × (List (List AV)) × (List (List AV)) × Bool × Int × Int × Int
  Y := ((List (List AV)) × Bool × Bool × Int) ⊕ ((List (List AV)) × Bool × Int)
  p := fun s => match s.env.length, s.nin, s.at 5, s.at 6, s.at 98, s.at 8, s.at 9, s.at 99, s.at 100 with
    | 189, 0, (AV.list 1 a0 none), (AV.list 3 a1 none), (AV.list 3 a2 none), (AV.v (.bool a3)), (AV.v (.int .i64 a4)), (AV.v (.int .i64 a5)), (AV.v (.int .i64 a6)) => some (a0, a1, a2, a3, a4, a5, a6)
    | _, _, _, _, _, _, _, _, _ => none
  st := fun x => mkS 189 [(5, (AV.list 1 x.1 none)), (6, (AV.list 3 x.2.1 none)), (98, (AV.list 3 x.2.2.1 none)), (8, (AV.v (.bool x.2.2.2.1))), (9, (AV.v (.int .i64 x.2.2.2.2.1))), (99, (AV.v (.int .i64 x.2.2.2.2.2.1))), (100, (AV.v (.int .i64 x.2.2.2.2.2.2)))] [] (F5_an 44).1.toks 0
  out := fun y => match y with
    | .inl y => (.ret, mkS 189 [(6, (AV.list 3 y.1 none)), (2, (AV.v (.bool y.2.1))), (8, (AV.v (.bool y.2.2.1))), (9, (AV.v (.int .i64 y.2.2.2)))] [] (F5_an 44).2.toks 0)
    | .inr y => (.exit 3, mkS 189 [(6, (AV.list 3 y.1 none)), (8, (AV.v (.bool y.2.1))), (9, (AV.v (.int .i64 y.2.2)))] [] (F5_an 44).2.toks 0)
  sp := fun y α k => match y with
    | .inl y => k (.ret, mkS 189 [(6, (AV.list 3 y.1 none)), (2, (AV.v (.bool y.2.1))), (8, (AV.v (.bool y.2.2.1))), (9, (AV.v (.int .i64 y.2.2.2)))] [] (F5_an 44).2.toks 0)
    | .inr y => k (.exit 3, mkS 189 [(6, (AV.list 3 y.1 none)), (8, (AV.v (.bool y.2.1))), (9, (AV.v (.int .i64 y.2.2)))] [] (F5_an 44).2.toks 0)
  spe := fun y α k => by rcases y with _ | _ <;> rfl
  b := fun x α kn ke => (match (decide (x.2.2.2.2.2.2 < x.2.2.2.2.2.1)) with | true => (if 0 ≤ x.2.2.2.2.2.2 then (match x.2.2.1[x.2.2.2.2.2.2.toNat]? with | some c26 => (match c26[0]? with | some x27 => (match x27 with | .v (.int q29 n28) => (if q29 = .i64 then (match c26[1]? with | some x30 => (match x30 with | .v (.int q32 n31) => (if q32 = .i64 then (match c26[2]? with | some x33 => (match x33 with | .v (.int q35 n34) => (if q35 = .i64 then (match (decide (n31 < 0)) with | true => (match F5_d59 N (x.1, x.2.1, x.2.2.1, x.2.2.2.1, x.2.2.2.2.1, x.2.2.2.2.2.2, (x.1.length : Int), 0, n28, x.2.2.2.2.2.1, x.2.2.2.2.2.2, n28, n31, n34) with | some y52 => (match (y52.2.2.2.2.2.2.2.1 != y52.2.2.2.2.2.2.2.2.2.2.2.2) with | true => (ke (.inl (y52.2.1, false, y52.2.2.2.1, y52.2.2.2.2.1))) | false => (match (decide (y52.2.2.2.2.2.2.2.2.2.2.1 ≥ y52.2.2.2.2.2.2.1)) with | true => (ke (.inl (y52.2.1, false, y52.2.2.2.1, y52.2.2.2.2.1))) | false => (match (decide (y52.2.2.2.2.2.1 > 0)) with | true => (if 0 ≤ (i64 (y52.2.2.2.2.2.1 - 1)) then (match y52.2.1[(i64 (y52.2.2.2.2.2.1 - 1)).toNat]? with | some c53 => (match (c53.drop 1)[0]? with | some x54 => (match x54 with | .v (.int q56 n55) => (if q56 = .i64 then (match (decide (n55 > y52.2.2.2.2.2.2.2.2.2.2.1)) with | true => (ke (.inl (y52.2.1, false, y52.2.2.2.1, y52.2.2.2.2.1))) | false => (match (decide (y52.2.2.2.2.2.2.2.2.2.2.2.1 < 0)) with | true => (match (decide ((i64 (y52.2.2.2.2.2.1 + 1)) < (y52.2.1.length : Int))) with | true => (ke (.inl (y52.2.1, false, y52.2.2.2.1, y52.2.2.2.2.1))) | false => (kn (y52.1, y52.2.1, y52.2.2.1, y52.2.2.2.1, y52.2.2.2.2.1, y52.2.2.2.2.2.2.2.2.1, (i64 (y52.2.2.2.2.2.2.2.2.2.1 + 1))))) | false => (kn (y52.1, y52.2.1, y52.2.2.1, y52.2.2.2.1, y52.2.2.2.2.1, y52.2.2.2.2.2.2.2.2.1, (i64 (y52.2.2.2.2.2.2.2.2.2.1 + 1)))))) else none) | _ => none) | none => none) | none => none) else none) | false => (match (decide (y52.2.2.2.2.2.2.2.2.2.2.2.1 < 0)) with | true => (match (decide ((i64 (y52.2.2.2.2.2.1 + 1)) < (y52.2.1.length : Int))) with | true => (ke (.inl (y52.2.1, false, y52.2.2.2.1, y52.2.2.2.2.1))) | false => (kn (y52.1, y52.2.1, y52.2.2.1, y52.2.2.2.1, y52.2.2.2.2.1, y52.2.2.2.2.2.2.2.2.1, (i64 (y52.2.2.2.2.2.2.2.2.2.1 + 1))))) | false => (kn (y52.1, y52.2.1, y52.2.2.1, y52.2.2.2.1, y52.2.2.2.2.1, y52.2.2.2.2.2.2.2.2.1, (i64 (y52.2.2.2.2.2.2.2.2.2.1 + 1)))))))) | none => none) | false => (match F5_d59 N (x.1, x.2.1, x.2.2.1, x.2.2.2.1, x.2.2.2.2.1, x.2.2.2.2.2.2, n31, 0, n28, x.2.2.2.2.2.1, x.2.2.2.2.2.2, n28, n31, n34) with | some y57 => (match (y57.2.2.2.2.2.2.2.1 != y57.2.2.2.2.2.2.2.2.2.2.2.2) with | true => (ke (.inl (y57.2.1, false, y57.2.2.2.1, y57.2.2.2.2.1))) | false => (match (decide (y57.2.2.2.2.2.2.2.2.2.2.1 ≥ y57.2.2.2.2.2.2.1)) with | true => (ke (.inl (y57.2.1, false, y57.2.2.2.1, y57.2.2.2.2.1))) | false => (match (decide (y57.2.2.2.2.2.1 > 0)) with | true => (if 0 ≤ (i64 (y57.2.2.2.2.2.1 - 1)) then (match y57.2.1[(i64 (y57.2.2.2.2.2.1 - 1)).toNat]? with | some c58 => (match (c58.drop 1)[0]? with | some x59 => (match x59 with | .v (.int q61 n60) => (if q61 = .i64 then (match (decide (n60 > y57.2.2.2.2.2.2.2.2.2.2.1)) with | true => (ke (.inl (y57.2.1, false, y57.2.2.2.1, y57.2.2.2.2.1))) | false => (match (decide (y57.2.2.2.2.2.2.2.2.2.2.2.1 < 0)) with | true => (match (decide ((i64 (y57.2.2.2.2.2.1 + 1)) < (y57.2.1.length : Int))) with | true => (ke (.inl (y57.2.1, false, y57.2.2.2.1, y57.2.2.2.2.1))) | false => (kn (y57.1, y57.2.1, y57.2.2.1, y57.2.2.2.1, y57.2.2.2.2.1, y57.2.2.2.2.2.2.2.2.1, (i64 (y57.2.2.2.2.2.2.2.2.2.1 + 1))))) | false => (kn (y57.1, y57.2.1, y57.2.2.1, y57.2.2.2.1, y57.2.2.2.2.1, y57.2.2.2.2.2.2.2.2.1, (i64 (y57.2.2.2.2.2.2.2.2.2.1 + 1)))))) else none) | _ => none) | none => none) | none => none) else none) | false => (match (decide (y57.2.2.2.2.2.2.2.2.2.2.2.1 < 0)) with | true => (match (decide ((i64 (y57.2.2.2.2.2.1 + 1)) < (y57.2.1.length : Int))) with | true => (ke (.inl (y57.2.1, false, y57.2.2.2.1, y57.2.2.2.2.1))) | false => (kn (y57.1, y57.2.1, y57.2.2.1, y57.2.2.2.1, y57.2.2.2.2.1, y57.2.2.2.2.2.2.2.2.1, (i64 (y57.2.2.2.2.2.2.2.2.2.1 + 1))))) | false => (kn (y57.1, y57.2.1, y57.2.2.1, y57.2.2.2.1, y57.2.2.2.2.1, y57.2.2.2.2.2.2.2.2.1, (i64 (y57.2.2.2.2.2.2.2.2.2.1 + 1)))))))) | none => none)) else none) | _ => none) | none => none) else none) | _ => none) | none => none) else none) | _ => none) | none => none) | none => none) else none) | false => (ke (.inr (x.2.1, x.2.2.2.1, x.2.2.2.2.1))))
noncomputable abbrev F5_d44 (N : Nat) (x : (List (List AV)) × (List (List AV)) × (List (List AV)) × Bool × Int × Int × Int) : Option (((List (List AV)) × Bool × Bool × Int) ⊕ ((List (List AV)) × Bool × Int)) := (F5_l44 N).L N x
noncomputable def F5_l16 (N : Nat) : LSpec where
  X := (List (List AV)) × (List (List AV)) × Bool × Int × Int × Int × Int × Int × Int
  Y := ((List (List AV)) × (List (List AV)) × Bool × Bool × Int) ⊕ ((List (List AV)) × (List (List AV)) × Bool × Int)
  p := fun s => match s.env.length, s.nin, s.at 5, s.at 6, s.at 4, s.at 8, s.at 9, s.at 10, s.bx 4 with
    | 189, 0, (AV.list 1 a0 none), (AV.list 3 a1 none), (AV.ptr 4 0), (AV.v (.bool a2)), (AV.v (.int .i64 a3)), (AV.v (.int .i64 a4)), some [(AV.v (.int .i64 a5)), (AV.v (.int .i64 a6)), (AV.v (.int .i64 a7)), (AV.v (.int .i64 a8))] => some (a0, a1, a2, a3, a4, a5, a6, a7, a8)
    | _, _, _, _, _, _, _, _, _ => none
  st := fun x => mkS 189 [(5, (AV.list 1 x.1 none)), (6, (AV.list 3 x.2.1 none)), (4, (AV.ptr 4 0)), (8, (AV.v (.bool x.2.2.1))), (9, (AV.v (.int .i64 x.2.2.2.1))), (10, (AV.v (.int .i64 x.2.2.2.2.1)))] [(4, [(AV.v (.int .i64 x.2.2.2.2.2.1)), (AV.v (.int .i64 x.2.2.2.2.2.2.1)), (AV.v (.int .i64 x.2.2.2.2.2.2.2.1)), (AV.v (.int .i64 x.2.2.2.2.2.2.2.2))])] (F5_an 16).1.toks 0
  out := fun y => match y with
    | .inl y => (.ret, mkS 189 [(5, (AV.list 1 y.1 none)), (6, (AV.list 3 y.2.1 none)), (2, (AV.v (.bool y.2.2.1))), (8, (AV.v (.bool y.2.2.2.1))), (9, (AV.v (.int .i64 y.2.2.2.2)))] [] (F5_an 16).2.toks 0)
    | .inr y => (.exit 0, mkS 189 [(5, (AV.list 1 y.1 none)), (6, (AV.list 3 y.2.1 none)), (8, (AV.v (.bool y.2.2.1))), (9, (AV.v (.int .i64 y.2.2.2)))] [] (F5_an 16).2.toks 0)
  sp := fun y α k => match y with
    | .inl y => k (.ret, mkS 189 [(5, (AV.list 1 y.1 none)), (6, (AV.list 3 y.2.1 none)), (2, (AV.v (.bool y.2.2.1))), (8, (AV.v (.bool y.2.2.2.1))), (9, (AV.v (.int .i64 y.2.2.2.2)))] [] (F5_an 16).2.toks 0)
    | .inr y => k (.exit 0, mkS 189 [(5, (AV.list 1 y.1 none)), (6, (AV.list 3 y.2.1 none)), (8, (AV.v (.bool y.2.2.1))), (9, (AV.v (.int .i64 y.2.2.2)))] [] (F5_an 16).2.toks 0)
  spe := fun y α k => by rcases y with _ | _ <;> rfl
  b := fun x α kn ke => (match (decide (x.2.2.2.2.1 < (x.1.length : Int))) with | true => (match F16_d N (x.2.2.2.2.2.1, x.2.2.2.2.2.2.1, x.2.2.2.2.2.2.2.1, x.2.2.2.2.2.2.2.2, x.1, x.2.2.2.2.1) with | some y7 => (match (y7.2.2 != 0) with | true => (ke (.inl (x.1, x.2.1, false, x.2.2.1, x.2.2.2.1))) | false => (match (!x.2.2.1) with | true => (match F17_d N (x.2.2.2.2.2.2.2.1, y7.2.1, y7.1, x.2.2.2.2.2.1, x.2.2.2.2.2.2.1, x.2.2.2.2.2.2.2.1, x.2.2.2.2.2.2.2.2) with | some y8 => (match y8.1 with | true => (match (decide (x.2.2.2.1 ≥ (x.2.1.length : Int))) with | true => (ke (.inl (x.1, x.2.1, false, x.2.2.1, x.2.2.2.1))) | false => (if 0 ≤ x.2.2.2.1 then (match x.2.1[x.2.2.2.1.toNat]? with | some c9 => (match (c9.drop 0)[0]? with | some x10 => (match x10 with | .v (.int q12 n11) => (if q12 = .i64 then (match (n11 != x.2.2.2.2.1) with | true => (ke (.inl (x.1, x.2.1, false, x.2.2.1, x.2.2.2.1))) | false => (kn (x.1, x.2.1, true, x.2.2.2.1, (i64 (x.2.2.2.2.1 + 1)), y8.2.2.2.1, y8.2.2.2.2.1, y8.2.2.2.2.2.1, y8.2.2.2.2.2.2))) else none) | _ => none) | none => none) | none => none) else none)) | false => (match x.2.2.1 with | true => (match F17_d N (y8.2.2.2.2.2.2, y8.2.1, y8.2.2.1, y8.2.2.2.1, y8.2.2.2.2.1, y8.2.2.2.2.2.1, y8.2.2.2.2.2.2) with | some y13 => (match (!y13.1) with | true => (if 0 ≤ x.2.2.2.1 then (match x.2.1[x.2.2.2.1.toNat]? with | some c14 => (match (c14.drop 1)[0]? with | some x15 => (match x15 with | .v (.int q17 n16) => (if q17 = .i64 then (match (n16 != x.2.2.2.2.1) with | true => (ke (.inl (x.1, x.2.1, false, x.2.2.1, x.2.2.2.1))) | false => (kn (x.1, x.2.1, false, (i64 (x.2.2.2.1 + 1)), (i64 (x.2.2.2.2.1 + 1)), y13.2.2.2.1, y13.2.2.2.2.1, y13.2.2.2.2.2.1, y13.2.2.2.2.2.2))) else none) | _ => none) | none => none) | none => none) else none) | false => (kn (x.1, x.2.1, x.2.2.1, x.2.2.2.1, (i64 (x.2.2.2.2.1 + 1)), y13.2.2.2.1, y13.2.2.2.2.1, y13.2.2.2.2.2.1, y13.2.2.2.2.2.2))) | none => none) | false => (kn (x.1, x.2.1, x.2.2.1, x.2.2.2.1, (i64 (x.2.2.2.2.1 + 1)), y8.2.2.2.1, y8.2.2.2.2.1, y8.2.2.2.2.2.1, y8.2.2.2.2.2.2)))) | none => none) | false => (match x.2.2.1 with | true => (match F17_d N (x.2.2.2.2.2.2.2.2, y7.2.1, y7.1, x.2.2.2.2.2.1, x.2.2.2.2.2.2.1, x.2.2.2.2.2.2.2.1, x.2.2.2.2.2.2.2.2) with | some y18 => (match (!y18.1) with | true => (if 0 ≤ x.2.2.2.1 then (match x.2.1[x.2.2.2.1.toNat]? with | some c19 => (match (c19.drop 1)[0]? with | some x20 => (match x20 with | .v (.int q22 n21) => (if q22 = .i64 then (match (n21 != x.2.2.2.2.1) with | true => (ke (.inl (x.1, x.2.1, false, x.2.2.1, x.2.2.2.1))) | false => (kn (x.1, x.2.1, false, (i64 (x.2.2.2.1 + 1)), (i64 (x.2.2.2.2.1 + 1)), y18.2.2.2.1, y18.2.2.2.2.1, y18.2.2.2.2.2.1, y18.2.2.2.2.2.2))) else none) | _ => none) | none => none) | none => none) else none) | false => (kn (x.1, x.2.1, x.2.2.1, x.2.2.2.1, (i64 (x.2.2.2.2.1 + 1)), y18.2.2.2.1, y18.2.2.2.2.1, y18.2.2.2.2.2.1, y18.2.2.2.2.2.2))) | none => none) | false => (kn (x.1, x.2.1, x.2.2.1, x.2.2.2.1, (i64 (x.2.2.2.2.1 + 1)), x.2.2.2.2.2.1, x.2.2.2.2.2.2.1, x.2.2.2.2.2.2.2.1, x.2.2.2.2.2.2.2.2))))) | none => none) | false => (ke (.inr (x.1, x.2.1, x.2.2.1, x.2.2.2.1))))
noncomputable abbrev F5_d16 (N : Nat) (x : (List (List AV)) × (List (List AV)) × Bool × Int × Int × Int × Int × Int × Int) : Option (((List (List AV)) × (List (List AV)) × Bool × Bool × Int) ⊕ ((List (List AV)) × (List (List AV)) × Bool × Int)) := (F5_l16 N).L N x
noncomputable def F5_s (N : Nat) : FSpec where
  X := (List (List AV))
  Y := Bool
  ash := [[some 1]]
  bsh := []
  S := ⟨[[none]], [], [], [], []⟩
  bm := false
  pat := fun a b => match a, b with
    | [(AV.list 1 a0 none)], [] => some a0
    | _, _ => none
  args := fun x => [(AV.list 1 x none)]
  bs := fun x => []
  ret := fun y => ⟨(AV.v (.bool y)), [], none, [], [], []⟩
  t := fun x α k => (match F8_d N x with | some y1 => (match (!y1) with | true => (match F9_d N () with | some y2 => (k y2) | none => none) | false => (match F10_d N x with | some y3 => (match F11_d N (y3.1, y3.2) with | some y4 => (match F12_d N (50, y4.2.2.2.2.1, y4.2.2.2.2.2) with | some y5 => (match F13_d N (y4.1, y4.2.1, y4.2.2.1, y4.2.2.2.1, y5.1) with | some y6 => (match (y6.2 != 0) with | true => (k false) | false => (match F5_d16 N (y5.1, y6.1, false, 0, (i64 (y4.2.1 - 1)), y4.1, y4.2.1, y4.2.2.1, y4.2.2.2.1) with | some y23 => (match y23 with | .inl z24 => (k z24.2.2.1) | .inr z25 => (match F5_d44 N (z25.1, z25.2.1, z25.2.1, z25.2.2.1, z25.2.2.2, (z25.2.1.length : Int), 0) with | some y62 => (match y62 with | .inl z63 => (k z63.2.1) | .inr z64 => (match ((z64.1.length : Int) == z64.2.2) with | true => (match (!z64.2.1) with | true => (match F9_d N () with | some y65 => (k y65) | none => none) | false => (match ((z64.1.length : Int) == (i64 (z64.2.2 + 1))) with | true => (match z64.2.1 with | true => (match F9_d N () with | some y66 => (k y66) | none => none) | false => (k false)) | false => (k false))) | false => (match ((z64.1.length : Int) == (i64 (z64.2.2 + 1))) with | true => (match z64.2.1 with | true => (match F9_d N () with | some y67 => (k y67) | none => none) | false => (k false)) | false => (k false)))) | none => none)) | none => none)) | none => none) | none => none) | none => none) | none => none)) | none => none)
noncomputable abbrev F5_d (N : Nat) (x : (List (List AV))) : Option (Bool) := (F5_s N).d x
theorem F5_par59 (N : Nat) : Par (F5_l59 N).b := by
  intro x α β kn ke kn' ke' r r' h h1 h2
  revert h
  dsimp only [F5_l59]
  (repeat' (first | (with_reducible refine par_ite ?_ ?_) | (with_reducible refine par_both ?_ ?_) | split)) <;> intro h <;> first | exact h1 _ h | exact h2 _ h | (cases h; done)
theorem F5_body59 (N : Nat) (x : (F5_l59 N).X) (α : Type) (kn : AS → Option α) (ke : Out → Option α) : around (tabOf Try.prog) (F5_g N) F5_an (lam N [(16, F5_l16 N), (44, F5_l44 N), (59, F5_l59 N)]) 59 (bodyOf (nthLoop 59 (Try.f5.body.getD .skip))) ((F5_l59 N).st x) kn ke = (F5_l59 N).b x α (fun x' => kn ((F5_l59 N).st x')) (fun y => (F5_l59 N).sp y α ke) := by kernel_rfl
theorem F5_pat59 (N : Nat) (s : AS) (x : (F5_l59 N).X) (hc : s = canon (F5_an 59).1 s) (h : (F5_l59 N).p s = some x) : s = (F5_l59 N).st x := by
  dsimp only [F5_l59] at h
  split at h
  · cases h
    exact canon_mk hc ‹_› ‹_› rfl rfl rfl ⟨‹_›, ‹_›, ‹_›, ‹_›, ‹_›, ‹_›, ‹_›, ‹_›, ‹_›, ‹_›, ‹_›, ‹_›, trivial⟩ ⟨‹_›, trivial⟩
  · cases h
theorem F5_loop59 (N : Nat) : ∀ s o, s = canon (F5_an 59).1 s → (lam N [(16, F5_l16 N), (44, F5_l44 N), (59, F5_l59 N)]).v 59 s = some o → LoopSem Try.prog (nthLoop 59 (Try.f5.body.getD .skip)) s o :=
  loop_ok (tabOf_ok Try.prog) (gam_ok _) mixed F5_an N [(16, F5_l16 N), (44, F5_l44 N), (59, F5_l59 N)] 59 (bodyOf (nthLoop 59 (Try.f5.body.getD .skip))) (nthLoop 59 (Try.f5.body.getD .skip)) (by kernel_rfl) (by
    have e : actOf F5_an (bodyOf (nthLoop 59 (Try.f5.body.getD .skip))) (59 + 1) = [] := by kernel_rfl
    rw [e]
    intro p hp
    cases hp) (F5_l59 N) rfl (fun s x hc h => F5_pat59 N s x hc h) (fun x => rfl) (fun x α kn ke => (F5_body59 N x α kn ke).trans (congrArg ((F5_l59 N).b x α _) (funext fun y => (F5_l59 N).spe y α ke))) (F5_par59 N)
theorem F5_par44 (N : Nat) : Par (F5_l44 N).b := by
  intro x α β kn ke kn' ke' r r' h h1 h2
  revert h
  dsimp only [F5_l44]
  (repeat' (first | (with_reducible refine par_ite ?_ ?_) | (with_reducible refine par_both ?_ ?_) | split)) <;> intro h <;> first | exact h1 _ h | exact h2 _ h | (cases h; done)
theorem F5_body44 (N : Nat) (x : (F5_l44 N).X) (α : Type) (kn : AS → Option α) (ke : Out → Option α) : around (tabOf Try.prog) (F5_g N) F5_an (lam N [(16, F5_l16 N), (44, F5_l44 N), (59, F5_l59 N)]) 44 (bodyOf (nthLoop 44 (Try.f5.body.getD .skip))) ((F5_l44 N).st x) kn ke = (F5_l44 N).b x α (fun x' => kn ((F5_l44 N).st x')) (fun y => (F5_l44 N).sp y α ke) := by kernel_rfl
theorem F5_pat44 (N : Nat) (s : AS) (x : (F5_l44 N).X) (hc : s = canon (F5_an 44).1 s) (h : (F5_l44 N).p s = some x) : s = (F5_l44 N).st x := by
  dsimp only [F5_l44] at h
  split at h
  · cases h
    exact canon_mk hc ‹_› ‹_› rfl rfl rfl ⟨‹_›, ‹_›, ‹_›, ‹_›, ‹_›, ‹_›, ‹_›, trivial⟩ trivial
  · cases h
theorem F5_loop44 (N : Nat) : ∀ s o, s = canon (F5_an 44).1 s → (lam N [(16, F5_l16 N), (44, F5_l44 N), (59, F5_l59 N)]).v 44 s = some o → LoopSem Try.prog (nthLoop 44 (Try.f5.body.getD .skip)) s o :=
  loop_ok (tabOf_ok Try.prog) (gam_ok _) mixed F5_an N [(16, F5_l16 N), (44, F5_l44 N), (59, F5_l59 N)] 44 (bodyOf (nthLoop 44 (Try.f5.body.getD .skip))) (nthLoop 44 (Try.f5.body.getD .skip)) (by kernel_rfl) (by
    have e : actOf F5_an (bodyOf (nthLoop 44 (Try.f5.body.getD .skip))) (44 + 1) = [(59, nthLoop 59 (Try.f5.body.getD .skip))] := by kernel_rfl
    rw [e]
    intro p hp
    rcases List.mem_cons.1 hp with rfl | hp
    · exact F5_loop59 N
    cases hp) (F5_l44 N) rfl (fun s x hc h => F5_pat44 N s x hc h) (fun x => rfl) (fun x α kn ke => (F5_body44 N x α kn ke).trans (congrArg ((F5_l44 N).b x α _) (funext fun y => (F5_l44 N).spe y α ke))) (F5_par44 N)
theorem F5_par16 (N : Nat) : Par (F5_l16 N).b := by
  intro x α β kn ke kn' ke' r r' h h1 h2
  revert h
  dsimp only [F5_l16]
  (repeat' (first | (with_reducible refine par_ite ?_ ?_) | (with_reducible refine par_both ?_ ?_) | split)) <;> intro h <;> first | exact h1 _ h | exact h2 _ h | (cases h; done)
theorem F5_body16 (N : Nat) (x : (F5_l16 N).X) (α : Type) (kn : AS → Option α) (ke : Out → Option α) : around (tabOf Try.prog) (F5_g N) F5_an (lam N [(16, F5_l16 N), (44, F5_l44 N), (59, F5_l59 N)]) 16 (bodyOf (nthLoop 16 (Try.f5.body.getD .skip))) ((F5_l16 N).st x) kn ke = (F5_l16 N).b x α (fun x' => kn ((F5_l16 N).st x')) (fun y => (F5_l16 N).sp y α ke) := by kernel_rfl
theorem F5_pat16 (N : Nat) (s : AS) (x : (F5_l16 N).X) (hc : s = canon (F5_an 16).1 s) (h : (F5_l16 N).p s = some x) : s = (F5_l16 N).st x := by
  dsimp only [F5_l16] at h
  split at h
  · cases h
    exact canon_mk hc ‹_› ‹_› rfl rfl rfl ⟨‹_›, ‹_›, ‹_›, ‹_›, ‹_›, ‹_›, trivial⟩ ⟨‹_›, trivial⟩
  · cases h
theorem F5_loop16 (N : Nat) : ∀ s o, s = canon (F5_an 16).1 s → (lam N [(16, F5_l16 N), (44, F5_l44 N), (59, F5_l59 N)]).v 16 s = some o → LoopSem Try.prog (nthLoop 16 (Try.f5.body.getD .skip)) s o :=
  loop_ok (tabOf_ok Try.prog) (gam_ok _) mixed F5_an N [(16, F5_l16 N), (44, F5_l44 N), (59, F5_l59 N)] 16 (bodyOf (nthLoop 16 (Try.f5.body.getD .skip))) (nthLoop 16 (Try.f5.body.getD .skip)) (by kernel_rfl) (by
    have e : actOf F5_an (bodyOf (nthLoop 16 (Try.f5.body.getD .skip))) (16 + 1) = [] := by kernel_rfl
    rw [e]
    intro p hp
    cases hp) (F5_l16 N) rfl (fun s x hc h => F5_pat16 N s x hc h) (fun x => rfl) (fun x α kn ke => (F5_body16 N x α kn ke).trans (congrArg ((F5_l16 N).b x α _) (funext fun y => (F5_l16 N).spe y α ke))) (F5_par16 N)
theorem F5_parF (N : Nat) : ParF (F5_s N).t := by
  intro x α β k k' r r' h h1
  revert h
  dsimp only [F5_s]
  (repeat' (first | (with_reducible refine par_ite ?_ ?_) | (with_reducible refine par_both ?_ ?_) | split)) <;> intro h <;> first | exact h1 _ h | (cases h; done)
theorem F5_text (N : Nat) (x : (F5_s N).X) : acall (tabOf Try.prog) (F5_g N) F5_an (lam N [(16, F5_l16 N), (44, F5_l44 N), (59, F5_l59 N)]) Try.f5 (F5_s N).S ((F5_s N).args x) ((F5_s N).bs x) = (F5_s N).t x Ret (fun y => some ((F5_s N).ret y)) := by kernel_rfl
theorem F5_pat (N : Nat) (a : List AV) (b : List (List AV)) (x : (F5_s N).X) (h : (F5_s N).pat a b = some x) : a = (F5_s N).args x ∧ b = (F5_s N).bs x := by
  dsimp only [F5_s] at h
  split at h
  · cases h; exact ⟨rfl, rfl⟩
  · cases h
noncomputable def F5_e (N : Nat) : Ent Try.prog := entOf (tabOf_ok Try.prog) (gam_ok _) mixed 5 Try.f5 Try.func5 rfl F5_an (lam N [(16, F5_l16 N), (44, F5_l44 N), (59, F5_l59 N)]) (by
    have e : actOf F5_an (Try.f5.body.getD .skip) 0 = [(16, nthLoop 16 (Try.f5.body.getD .skip)), (44, nthLoop 44 (Try.f5.body.getD .skip)), (59, nthLoop 59 (Try.f5.body.getD .skip))] := by kernel_rfl
    rw [e]
    intro p hp
    rcases List.mem_cons.1 hp with rfl | hp
    · exact F5_loop16 N
    rcases List.mem_cons.1 hp with rfl | hp
    · exact F5_loop44 N
    rcases List.mem_cons.1 hp with rfl | hp
    · exact F5_loop59 N
    cases hp) (F5_s N) (fun _ => ⟨rfl, rfl⟩) (F5_text N) (F5_pat N) (F5_parF N)
/-! ### seismonet/detector.ValidWatch$1 (function 47) -/
def F47_an : Nat → Keep × Keep := anL []
noncomputable def F47_g (N : Nat) : GamK := gam (P := Try.prog) [F37_e N]
noncomputable def F47_s (N : Nat) : FSpec where
  X := Int
  Y := Bool
  ash := [[none]]
  bsh := []
  S := ⟨[[none]], [], [], [], []⟩
  bm := false
  pat := fun a b => match a, b with
    | [(AV.v (.int .i64 a0))], [] => some a0
    | _, _ => none
  args := fun x => [(AV.v (.int .i64 x))]
  bs := fun x => []
  ret := fun y => ⟨(AV.v (.bool y)), [], none, [], [], []⟩
  t := fun x α k => (match F37_d N (x, 0, 1073741823) with | some y1 => (k (!y1)) | none => none)
noncomputable abbrev F47_d (N : Nat) (x : Int) : Option (Bool) := (F47_s N).d x
theorem F47_parF (N : Nat) : ParF (F47_s N).t := by
  intro x α β k k' r r' h h1
  revert h
  dsimp only [F47_s]
  (repeat' (first | (with_reducible refine par_ite ?_ ?_) | (with_reducible refine par_both ?_ ?_) | split)) <;> intro h <;> first | exact h1 _ h | (cases h; done)
theorem F47_text (N : Nat) (x : (F47_s N).X) : acall (tabOf Try.prog) (F47_g N) F47_an (lam N []) Try.f47 (F47_s N).S ((F47_s N).args x) ((F47_s N).bs x) = (F47_s N).t x Ret (fun y => some ((F47_s N).ret y)) := by kernel_rfl
theorem F47_pat (N : Nat) (a : List AV) (b : List (List AV)) (x : (F47_s N).X) (h : (F47_s N).pat a b = some x) : a = (F47_s N).args x ∧ b = (F47_s N).bs x := by
  dsimp only [F47_s] at h
  split at h
  · cases h; exact ⟨rfl, rfl⟩
  · cases h
noncomputable def F47_e (N : Nat) : Ent Try.prog := entOf (tabOf_ok Try.prog) (gam_ok _) mixed 47 Try.f47 Try.func47 rfl F47_an (lam N []) (by
    have e : actOf F47_an (Try.f47.body.getD .skip) 0 = [] := by kernel_rfl
    rw [e]
    intro p hp
    cases hp) (F47_s N) (fun _ => ⟨rfl, rfl⟩) (F47_text N) (F47_pat N) (F47_parF N)
/-! ### slices.IndexFunc[[]int,int] (function 48) -/
def F48a_an : Nat → Keep × Keep := anL [(4, ⟨[1, 7, 8], [], [], [(0, 1)], [], [], [], [], false⟩, ⟨[4], [], [], [], [], [], [], [], false⟩)]
noncomputable def F48a_g (N : Nat) : GamK := gam (P := Try.prog) [F47_e N]
noncomputable def F48a_l4 (N : Nat) : LSpec where
  X := (List (List AV)) × Int × Int
  Y := (Int) ⊕ (Unit)
  p := fun s => match s.env.length, s.nin, s.at 0, s.at 1, s.at 7, s.at 8 with
    | 19, 0, (AV.list 1 a0 none), (AV.fn (.func 47) [] []), (AV.v (.int .i64 a1)), (AV.v (.int .i64 a2)) => some (a0, a1, a2)
    | _, _, _, _, _, _ => none
  st := fun x => mkS 19 [(0, (AV.list 1 x.1 none)), (1, (AV.fn (.func 47) [] [])), (7, (AV.v (.int .i64 x.2.1))), (8, (AV.v (.int .i64 x.2.2)))] [] (F48a_an 4).1.toks 0
  out := fun y => match y with
    | .inl y => (.ret, mkS 19 [(4, (AV.v (.int .i64 y)))] [] (F48a_an 4).2.toks 0)
    | .inr y => (.exit 0, mkS 19 [] [] (F48a_an 4).2.toks 0)
  sp := fun y α k => match y with
    | .inl y => k (.ret, mkS 19 [(4, (AV.v (.int .i64 y)))] [] (F48a_an 4).2.toks 0)
    | .inr y => k (.exit 0, mkS 19 [] [] (F48a_an 4).2.toks 0)
  spe := fun y α k => by rcases y with _ | _ <;> rfl
  b := fun x α kn ke => (match (decide (x.2.2 < x.2.1)) with | true => (if 0 ≤ x.2.2 then (match x.1[x.2.2.toNat]? with | some c1 => (match c1[0]? with | some x2 => (match x2 with | .v (.int q4 n3) => (if q4 = .i64 then (match F47_d N n3 with | some y5 => (match y5 with | true => (ke (.inl x.2.2)) | false => (kn (x.1, x.2.1, (i64 (x.2.2 + 1))))) | none => none) else none) | _ => none) | none => none) | none => none) else none) | false => (ke (.inr ())))
noncomputable abbrev F48a_d4 (N : Nat) (x : (List (List AV)) × Int × Int) : Option ((Int) ⊕ (Unit)) := (F48a_l4 N).L N x
noncomputable def F48a_s (N : Nat) : FSpec where
  X := (List (List AV))
  Y := Int
  ash := [[some 1], [none]]
  bsh := []
  S := ⟨[[none]], [], [], [], []⟩
  bm := false
  pat := fun a b => match a, b with
    | [(AV.list 1 a0 none), (AV.fn (.func 47) [] [])], [] => some a0
    | _, _ => none
  args := fun x => [(AV.list 1 x none), (AV.fn (.func 47) [] [])]
  bs := fun x => []
  ret := fun y => ⟨(AV.v (.int .i64 y)), [], none, [], [], []⟩
  t := fun x α k => (match F48a_d4 N (x, (x.length : Int), 0) with | some y6 => (match y6 with | .inl z7 => (k z7) | .inr z8 => (k (-1))) | none => none)
noncomputable abbrev F48a_d (N : Nat) (x : (List (List AV))) : Option (Int) := (F48a_s N).d x
theorem F48a_par4 (N : Nat) : Par (F48a_l4 N).b := by
  intro x α β kn ke kn' ke' r r' h h1 h2
  revert h
  dsimp only [F48a_l4]
  (repeat' (first | (with_reducible refine par_ite ?_ ?_) | (with_reducible refine par_both ?_ ?_) | split)) <;> intro h <;> first | exact h1 _ h | exact h2 _ h | (cases h; done)
theorem F48a_body4 (N : Nat) (x : (F48a_l4 N).X) (α : Type) (kn : AS → Option α) (ke : Out → Option α) : around (tabOf Try.prog) (F48a_g N) F48a_an (lam N [(4, F48a_l4 N)]) 4 (bodyOf (nthLoop 4 (Try.f48.body.getD .skip))) ((F48a_l4 N).st x) kn ke = (F48a_l4 N).b x α (fun x' => kn ((F48a_l4 N).st x')) (fun y => (F48a_l4 N).sp y α ke) := by kernel_rfl
theorem F48a_pat4 (N : Nat) (s : AS) (x : (F48a_l4 N).X) (hc : s = canon (F48a_an 4).1 s) (h : (F48a_l4 N).p s = some x) : s = (F48a_l4 N).st x := by
  dsimp only [F48a_l4] at h
  split at h
  · cases h
    exact canon_mk hc ‹_› ‹_› rfl rfl rfl ⟨‹_›, ‹_›, ‹_›, ‹_›, trivial⟩ trivial
  · cases h
theorem F48a_loop4 (N : Nat) : ∀ s o, s = canon (F48a_an 4).1 s → (lam N [(4, F48a_l4 N)]).v 4 s = some o → LoopSem Try.prog (nthLoop 4 (Try.f48.body.getD .skip)) s o :=
  loop_ok (tabOf_ok Try.prog) (gam_ok _) mixed F48a_an N [(4, F48a_l4 N)] 4 (bodyOf (nthLoop 4 (Try.f48.body.getD .skip))) (nthLoop 4 (Try.f48.body.getD .skip)) (by kernel_rfl) (by
    have e : actOf F48a_an (bodyOf (nthLoop 4 (Try.f48.body.getD .skip))) (4 + 1) = [] := by kernel_rfl
    rw [e]
    intro p hp
    cases hp) (F48a_l4 N) rfl (fun s x hc h => F48a_pat4 N s x hc h) (fun x => rfl) (fun x α kn ke => (F48a_body4 N x α kn ke).trans (congrArg ((F48a_l4 N).b x α _) (funext fun y => (F48a_l4 N).spe y α ke))) (F48a_par4 N)
theorem F48a_parF (N : Nat) : ParF (F48a_s N).t := by
  intro x α β k k' r r' h h1
  revert h
  dsimp only [F48a_s]
  (repeat' (first | (with_reducible refine par_ite ?_ ?_) | (with_reducible refine par_both ?_ ?_) | split)) <;> intro h <;> first | exact h1 _ h | (cases h; done)
theorem F48a_text (N : Nat) (x : (F48a_s N).X) : acall (tabOf Try.prog) (F48a_g N) F48a_an (lam N [(4, F48a_l4 N)]) Try.f48 (F48a_s N).S ((F48a_s N).args x) ((F48a_s N).bs x) = (F48a_s N).t x Ret (fun y => some ((F48a_s N).ret y)) := by kernel_rfl
theorem F48a_pat (N : Nat) (a : List AV) (b : List (List AV)) (x : (F48a_s N).X) (h : (F48a_s N).pat a b = some x) : a = (F48a_s N).args x ∧ b = (F48a_s N).bs x := by
  dsimp only [F48a_s] at h
  split at h
  · cases h; exact ⟨rfl, rfl⟩
  · cases h
noncomputable def F48a_e (N : Nat) : Ent Try.prog := entOf (tabOf_ok Try.prog) (gam_ok _) mixed 48 Try.f48 Try.func48 rfl F48a_an (lam N [(4, F48a_l4 N)]) (by
    have e : actOf F48a_an (Try.f48.body.getD .skip) 0 = [(4, nthLoop 4 (Try.f48.body.getD .skip))] := by kernel_rfl
    rw [e]
    intro p hp
    rcases List.mem_cons.1 hp with rfl | hp
    · exact F48a_loop4 N
    cases hp) (F48a_s N) (fun _ => ⟨rfl, rfl⟩) (F48a_text N) (F48a_pat N) (F48a_parF N)
/-! ### slices.ContainsFunc[[]int,int] (function 33) -/
def F33a_an : Nat → Keep × Keep := anL []
noncomputable def F33a_g (N : Nat) : GamK := gam (P := Try.prog) [F48a_e N]
noncomputable def F33a_s (N : Nat) : FSpec where
  X := (List (List AV))
  Y := Bool
  ash := [[some 1], [none]]
  bsh := []
  S := ⟨[[none]], [], [], [], []⟩
  bm := false
  pat := fun a b => match a, b with
    | [(AV.list 1 a0 none), (AV.fn (.func 47) [] [])], [] => some a0
    | _, _ => none
  args := fun x => [(AV.list 1 x none), (AV.fn (.func 47) [] [])]
  bs := fun x => []
  ret := fun y => ⟨(AV.v (.bool y)), [], none, [], [], []⟩
  t := fun x α k => (match F48a_d N x with | some y1 => (k (decide (y1 ≥ 0))) | none => none)
noncomputable abbrev F33a_d (N : Nat) (x : (List (List AV))) : Option (Bool) := (F33a_s N).d x
theorem F33a_parF (N : Nat) : ParF (F33a_s N).t := by
  intro x α β k k' r r' h h1
  revert h
  dsimp only [F33a_s]
  (repeat' (first | (with_reducible refine par_ite ?_ ?_) | (with_reducible refine par_both ?_ ?_) | split)) <;> intro h <;> first | exact h1 _ h | (cases h; done)
theorem F33a_text (N : Nat) (x : (F33a_s N).X) : acall (tabOf Try.prog) (F33a_g N) F33a_an (lam N []) Try.f33 (F33a_s N).S ((F33a_s N).args x) ((F33a_s N).bs x) = (F33a_s N).t x Ret (fun y => some ((F33a_s N).ret y)) := by kernel_rfl
theorem F33a_pat (N : Nat) (a : List AV) (b : List (List AV)) (x : (F33a_s N).X) (h : (F33a_s N).pat a b = some x) : a = (F33a_s N).args x ∧ b = (F33a_s N).bs x := by
  dsimp only [F33a_s] at h
  split at h
  · cases h; exact ⟨rfl, rfl⟩
  · cases h
noncomputable def F33a_e (N : Nat) : Ent Try.prog := entOf (tabOf_ok Try.prog) (gam_ok _) mixed 33 Try.f33 Try.func33 rfl F33a_an (lam N []) (by
    have e : actOf F33a_an (Try.f33.body.getD .skip) 0 = [] := by kernel_rfl
    rw [e]
    intro p hp
    cases hp) (F33a_s N) (fun _ => ⟨rfl, rfl⟩) (F33a_text N) (F33a_pat N) (F33a_parF N)
/-! ### seismonet/detector.ValidWatch (function 31) -/
def F31_an : Nat → Keep × Keep := anL []
noncomputable def F31_g (N : Nat) : GamK := gam (P := Try.prog) [F25_e N, F33a_e N, F37_e N]
noncomputable def F31_s (N : Nat) : FSpec where
  X := Int × Int × Int × Int × (List (List AV)) × Int × Int × Int × Int
  Y := Bool
  ash := [[none, none, none, none, some 1, none, none, none, none]]
  bsh := []
  S := ⟨[[none]], [], [], [], []⟩
  bm := false
  pat := fun a b => match a, b with
    | [(AV.agg [(AV.v (.int .i64 a0)), (AV.v (.int .i64 a1)), (AV.v (.int .i64 a2)), (AV.v (.int .i64 a3)), (AV.list 1 a4 none), (AV.v (.int .i64 a5)), (AV.v (.int .i64 a6)), (AV.v (.int .i64 a7)), (AV.v (.int .i64 a8))])], [] => some (a0, a1, a2, a3, a4, a5, a6, a7, a8)
    | _, _ => none
  args := fun x => [(AV.agg [(AV.v (.int .i64 x.1)), (AV.v (.int .i64 x.2.1)), (AV.v (.int .i64 x.2.2.1)), (AV.v (.int .i64 x.2.2.2.1)), (AV.list 1 x.2.2.2.2.1 none), (AV.v (.int .i64 x.2.2.2.2.2.1)), (AV.v (.int .i64 x.2.2.2.2.2.2.1)), (AV.v (.int .i64 x.2.2.2.2.2.2.2.1)), (AV.v (.int .i64 x.2.2.2.2.2.2.2.2))])]
  bs := fun x => []
  ret := fun y => ⟨(AV.v (.bool y)), [], none, [], [], []⟩
  t := fun x α k => (match F25_d N (x.1, x.2.1, x.2.2.1, x.2.2.2.1) with | some y1 => (match (!y1) with | true => (k false) | false => (match (decide ((x.2.2.2.2.1.length : Int) ≥ x.2.1)) with | true => (k false) | false => (match F33a_d N x.2.2.2.2.1 with | some y2 => (match y2 with | true => (k false) | false => (match F37_d N (x.2.2.2.2.2.1, (x.2.2.2.2.1.length : Int), 16777216) with | some y3 => (match (!y3) with | true => (k false) | false => (match (decide ((x.2.2.2.2.1.length : Int) < (i64 (x.2.1 - 1)))) with | true => (match (x.2.2.2.2.2.1 != (x.2.2.2.2.1.length : Int)) with | true => (k false) | false => (match (x.2.2.2.2.2.2.1 == (-1)) with | true => (match (x.2.2.2.2.2.2.2.1 == 0) with | true => (k (x.2.2.2.2.2.2.2.2 == 0)) | false => (k false)) | false => (match (decide (x.2.2.2.2.2.1 ≥ x.2.1)) with | true => (match F37_d N (x.2.2.2.2.2.2.1, 0, (i64 (x.2.2.2.2.2.1 - 1))) with | some y4 => (match y4 with | true => (match (x.2.2.2.2.2.2.2.1 == (-1)) with | true => (match F37_d N (x.2.2.2.2.2.2.2.2, 0, 1073741823) with | some y5 => (k y5) | none => none) | false => (k false)) | false => (k false)) | none => none) | false => (k false)))) | false => (match (x.2.2.2.2.2.2.1 == (-1)) with | true => (match (x.2.2.2.2.2.2.2.1 == 0) with | true => (k (x.2.2.2.2.2.2.2.2 == 0)) | false => (k false)) | false => (match (decide (x.2.2.2.2.2.1 ≥ x.2.1)) with | true => (match F37_d N (x.2.2.2.2.2.2.1, 0, (i64 (x.2.2.2.2.2.1 - 1))) with | some y6 => (match y6 with | true => (match (x.2.2.2.2.2.2.2.1 == (-1)) with | true => (match F37_d N (x.2.2.2.2.2.2.2.2, 0, 1073741823) with | some y7 => (k y7) | none => none) | false => (k false)) | false => (k false)) | none => none) | false => (k false))))) | none => none)) | none => none))) | none => none)
noncomputable abbrev F31_d (N : Nat) (x : Int × Int × Int × Int × (List (List AV)) × Int × Int × Int × Int) : Option (Bool) := (F31_s N).d x
theorem F31_parF (N : Nat) : ParF (F31_s N).t := by
  intro x α β k k' r r' h h1
  revert h
  dsimp only [F31_s]
  (repeat' (first | (with_reducible refine par_ite ?_ ?_) | (with_reducible refine par_both ?_ ?_) | split)) <;> intro h <;> first | exact h1 _ h | (cases h; done)
theorem F31_text (N : Nat) (x : (F31_s N).X) : acall (tabOf Try.prog) (F31_g N) F31_an (lam N []) Try.f31 (F31_s N).S ((F31_s N).args x) ((F31_s N).bs x) = (F31_s N).t x Ret (fun y => some ((F31_s N).ret y)) := by kernel_rfl
theorem F31_pat (N : Nat) (a : List AV) (b : List (List AV)) (x : (F31_s N).X) (h : (F31_s N).pat a b = some x) : a = (F31_s N).args x ∧ b = (F31_s N).bs x := by
  dsimp only [F31_s] at h
  split at h
  · cases h; exact ⟨rfl, rfl⟩
  · cases h
noncomputable def F31_e (N : Nat) : Ent Try.prog := entOf (tabOf_ok Try.prog) (gam_ok _) mixed 31 Try.f31 Try.func31 rfl F31_an (lam N []) (by
    have e : actOf F31_an (Try.f31.body.getD .skip) 0 = [] := by kernel_rfl
    rw [e]
    intro p hp
    cases hp) (F31_s N) (fun _ => ⟨rfl, rfl⟩) (F31_text N) (F31_pat N) (F31_parF N)
/-! ### slices.Clone[[]int,int] (function 39) -/
def F39_an : Nat → Keep × Keep := anL []
noncomputable def F39_g (N : Nat) : GamK := gam (P := Try.prog) []
noncomputable def F39_s (N : Nat) : FSpec where
  X := (List (List AV))
  Y := (List (List AV))
  ash := [[some 1]]
  bsh := []
  S := ⟨[[some 2000001]], [], [], [], []⟩
  bm := false
  pat := fun a b => match a, b with
    | [(AV.list 1 a0 none)], [] => some a0
    | _, _ => none
  args := fun x => [(AV.list 1 x none)]
  bs := fun x => []
  ret := fun y => ⟨(AV.list 1 y (some 2560000000)), [], none, [], [2560000000], []⟩
  t := fun x α k => (match x with | [] => (both (k ([] : List (List AV))) (if (([] : List (List AV)).length + x.length) * 8 ≤ maxBytes then (k (([] : List (List AV)) ++ x)) else none)) | _ :: _ => (if (([] : List (List AV)).length + x.length) * 8 ≤ maxBytes then (k (([] : List (List AV)) ++ x)) else none))
noncomputable abbrev F39_d (N : Nat) (x : (List (List AV))) : Option ((List (List AV))) := (F39_s N).d x
theorem F39_parF (N : Nat) : ParF (F39_s N).t := by
  intro x α β k k' r r' h h1
  revert h
  dsimp only [F39_s]
  (repeat' (first | (with_reducible refine par_ite ?_ ?_) | (with_reducible refine par_both ?_ ?_) | split)) <;> intro h <;> first | exact h1 _ h | (cases h; done)
theorem F39_text (N : Nat) (x : (F39_s N).X) : acall (tabOf Try.prog) (F39_g N) F39_an (lam N []) Try.f39 (F39_s N).S ((F39_s N).args x) ((F39_s N).bs x) = (F39_s N).t x Ret (fun y => some ((F39_s N).ret y)) := by kernel_rfl
theorem F39_pat (N : Nat) (a : List AV) (b : List (List AV)) (x : (F39_s N).X) (h : (F39_s N).pat a b = some x) : a = (F39_s N).args x ∧ b = (F39_s N).bs x := by
  dsimp only [F39_s] at h
  split at h
  · cases h; exact ⟨rfl, rfl⟩
  · cases h
noncomputable def F39_e (N : Nat) : Ent Try.prog := entOf (tabOf_ok Try.prog) (gam_ok _) mixed 39 Try.f39 Try.func39 rfl F39_an (lam N []) (by
    have e : actOf F39_an (Try.f39.body.getD .skip) 0 = [] := by kernel_rfl
    rw [e]
    intro p hp
    cases hp) (F39_s N) (fun _ => ⟨rfl, rfl⟩) (F39_text N) (F39_pat N) (F39_parF N)
/-! ### seismonet/detector.Push (function 20) -/
def F20_an : Nat → Keep × Keep := anL [(16, ⟨[4, 7, 35, 36], [], [4, 33], [(34, 1)], [((4, 4), 1), ((33, 4), 1), ((33, 11), 3)], [], [], [], false⟩, ⟨[4, 7], [], [4, 33], [], [((4, 4), 1), ((33, 4), 1), ((33, 11), 3)], [], [], [], false⟩)]
noncomputable def F20_g (N : Nat) : GamK := gam (P := Try.prog) [F31_e N, F33_e N, F35_e N, F36_e N, F39_e N]
noncomputable def F20_l16 (N : Nat) : LSpec where
  X := (List (List AV)) × Int × Int × Int × Int × Int × Int × (List (List AV)) × Int × Int × Int × Int × Int × Int × Int × Int × (List (List AV)) × Int × Int × Int × Int × Int × Int × (List (List AV))
  Y := (Int × Int × Int × Int × (List (List AV)) × Int × Int × Int × Int × Int × Int × Int × Int × (List (List AV)) × Int × Int × Int × Int × Int × Int × (List (List AV)))
  p := fun s => match s.env.length, s.nin, s.at 34, s.at 4, s.at 7, s.at 35, s.at 36, s.bx 4, s.bx 33 with
    | 62, 0, (AV.list 1 a0 none), (AV.ptr 4 0), (AV.ptr 33 0), (AV.v (.int .i64 a1)), (AV.v (.int .i64 a2)), some [(AV.v (.int .i64 a3)), (AV.v (.int .i64 a4)), (AV.v (.int .i64 a5)), (AV.v (.int .i64 a6)), (AV.list 1 a7 (some 6401048832)), (AV.v (.int .i64 a8)), (AV.v (.int .i64 a9)), (AV.v (.int .i64 a10)), (AV.v (.int .i64 a11))], some [(AV.v (.int .i64 a12)), (AV.v (.int .i64 a13)), (AV.v (.int .i64 a14)), (AV.v (.int .i64 a15)), (AV.list 1 a16 (some 6408651008)), (AV.v (.int .i64 a17)), (AV.v (.int .i64 a18)), (AV.v (.int .i64 a19)), (AV.v (.int .i64 a20)), (AV.v (.int .i64 a21)), (AV.v (.int .i64 a22)), (AV.list 3 a23 (some 6408651456))] => some (a0, a1, a2, a3, a4, a5, a6, a7, a8, a9, a10, a11, a12, a13, a14, a15, a16, a17, a18, a19, a20, a21, a22, a23)
    | _, _, _, _, _, _, _, _, _ => none
  st := fun x => mkS 62 [(34, (AV.list 1 x.1 none)), (4, (AV.ptr 4 0)), (7, (AV.ptr 33 0)), (35, (AV.v (.int .i64 x.2.1))), (36, (AV.v (.int .i64 x.2.2.1)))] [(4, [(AV.v (.int .i64 x.2.2.2.1)), (AV.v (.int .i64 x.2.2.2.2.1)), (AV.v (.int .i64 x.2.2.2.2.2.1)), (AV.v (.int .i64 x.2.2.2.2.2.2.1)), (AV.list 1 x.2.2.2.2.2.2.2.1 (some 6401048832)), (AV.v (.int .i64 x.2.2.2.2.2.2.2.2.1)), (AV.v (.int .i64 x.2.2.2.2.2.2.2.2.2.1)), (AV.v (.int .i64 x.2.2.2.2.2.2.2.2.2.2.1)), (AV.v (.int .i64 x.2.2.2.2.2.2.2.2.2.2.2.1))]), (33, [(AV.v (.int .i64 x.2.2.2.2.2.2.2.2.2.2.2.2.1)), (AV.v (.int .i64 x.2.2.2.2.2.2.2.2.2.2.2.2.2.1)), (AV.v (.int .i64 x.2.2.2.2.2.2.2.2.2.2.2.2.2.2.1)), (AV.v (.int .i64 x.2.2.2.2.2.2.2.2.2.2.2.2.2.2.2.1)), (AV.list 1 x.2.2.2.2.2.2.2.2.2.2.2.2.2.2.2.2.1 (some 6408651008)), (AV.v (.int .i64 x.2.2.2.2.2.2.2.2.2.2.2.2.2.2.2.2.2.1)), (AV.v (.int .i64 x.2.2.2.2.2.2.2.2.2.2.2.2.2.2.2.2.2.2.1)), (AV.v (.int .i64 x.2.2.2.2.2.2.2.2.2.2.2.2.2.2.2.2.2.2.2.1)), (AV.v (.int .i64 x.2.2.2.2.2.2.2.2.2.2.2.2.2.2.2.2.2.2.2.2.1)), (AV.v (.int .i64 x.2.2.2.2.2.2.2.2.2.2.2.2.2.2.2.2.2.2.2.2.2.1)), (AV.v (.int .i64 x.2.2.2.2.2.2.2.2.2.2.2.2.2.2.2.2.2.2.2.2.2.2.1)), (AV.list 3 x.2.2.2.2.2.2.2.2.2.2.2.2.2.2.2.2.2.2.2.2.2.2.2 (some 6408651456))])] (F20_an 16).1.toks 0
  out := fun y => (.exit 1, mkS 62 [(4, (AV.ptr 4 0)), (7, (AV.ptr 33 0))] [(4, [(AV.v (.int .i64 y.1)), (AV.v (.int .i64 y.2.1)), (AV.v (.int .i64 y.2.2.1)), (AV.v (.int .i64 y.2.2.2.1)), (AV.list 1 y.2.2.2.2.1 (some 6401048832)), (AV.v (.int .i64 y.2.2.2.2.2.1)), (AV.v (.int .i64 y.2.2.2.2.2.2.1)), (AV.v (.int .i64 y.2.2.2.2.2.2.2.1)), (AV.v (.int .i64 y.2.2.2.2.2.2.2.2.1))]), (33, [(AV.v (.int .i64 y.2.2.2.2.2.2.2.2.2.1)), (AV.v (.int .i64 y.2.2.2.2.2.2.2.2.2.2.1)), (AV.v (.int .i64 y.2.2.2.2.2.2.2.2.2.2.2.1)), (AV.v (.int .i64 y.2.2.2.2.2.2.2.2.2.2.2.2.1)), (AV.list 1 y.2.2.2.2.2.2.2.2.2.2.2.2.2.1 (some 6408651008)), (AV.v (.int .i64 y.2.2.2.2.2.2.2.2.2.2.2.2.2.2.1)), (AV.v (.int .i64 y.2.2.2.2.2.2.2.2.2.2.2.2.2.2.2.1)), (AV.v (.int .i64 y.2.2.2.2.2.2.2.2.2.2.2.2.2.2.2.2.1)), (AV.v (.int .i64 y.2.2.2.2.2.2.2.2.2.2.2.2.2.2.2.2.2.1)), (AV.v (.int .i64 y.2.2.2.2.2.2.2.2.2.2.2.2.2.2.2.2.2.2.1)), (AV.v (.int .i64 y.2.2.2.2.2.2.2.2.2.2.2.2.2.2.2.2.2.2.2.1)), (AV.list 3 y.2.2.2.2.2.2.2.2.2.2.2.2.2.2.2.2.2.2.2.2 (some 6408651456))])] (F20_an 16).2.toks 0)
  sp := fun y α k => k (.exit 1, mkS 62 [(4, (AV.ptr 4 0)), (7, (AV.ptr 33 0))] [(4, [(AV.v (.int .i64 y.1)), (AV.v (.int .i64 y.2.1)), (AV.v (.int .i64 y.2.2.1)), (AV.v (.int .i64 y.2.2.2.1)), (AV.list 1 y.2.2.2.2.1 (some 6401048832)), (AV.v (.int .i64 y.2.2.2.2.2.1)), (AV.v (.int .i64 y.2.2.2.2.2.2.1)), (AV.v (.int .i64 y.2.2.2.2.2.2.2.1)), (AV.v (.int .i64 y.2.2.2.2.2.2.2.2.1))]), (33, [(AV.v (.int .i64 y.2.2.2.2.2.2.2.2.2.1)), (AV.v (.int .i64 y.2.2.2.2.2.2.2.2.2.2.1)), (AV.v (.int .i64 y.2.2.2.2.2.2.2.2.2.2.2.1)), (AV.v (.int .i64 y.2.2.2.2.2.2.2.2.2.2.2.2.1)), (AV.list 1 y.2.2.2.2.2.2.2.2.2.2.2.2.2.1 (some 6408651008)), (AV.v (.int .i64 y.2.2.2.2.2.2.2.2.2.2.2.2.2.2.1)), (AV.v (.int .i64 y.2.2.2.2.2.2.2.2.2.2.2.2.2.2.2.1)), (AV.v (.int .i64 y.2.2.2.2.2.2.2.2.2.2.2.2.2.2.2.2.1)), (AV.v (.int .i64 y.2.2.2.2.2.2.2.2.2.2.2.2.2.2.2.2.2.1)), (AV.v (.int .i64 y.2.2.2.2.2.2.2.2.2.2.2.2.2.2.2.2.2.2.1)), (AV.v (.int .i64 y.2.2.2.2.2.2.2.2.2.2.2.2.2.2.2.2.2.2.2.1)), (AV.list 3 y.2.2.2.2.2.2.2.2.2.2.2.2.2.2.2.2.2.2.2.2 (some 6408651456))])] (F20_an 16).2.toks 0)
  spe := fun y α k => rfl
  b := fun x α kn ke => (match (decide (x.2.2.1 < x.2.1)) with | true => (if 0 ≤ x.2.2.1 then (match x.1[x.2.2.1.toNat]? with | some c9 => (match c9[0]? with | some x10 => (match x10 with | .v (.int q12 n11) => (if q12 = .i64 then (match F36_d N (n11, x.2.2.2.2.2.2.2.2.2.2.2.2.1, x.2.2.2.2.2.2.2.2.2.2.2.2.2.1, x.2.2.2.2.2.2.2.2.2.2.2.2.2.2.1, x.2.2.2.2.2.2.2.2.2.2.2.2.2.2.2.1, x.2.2.2.2.2.2.2.2.2.2.2.2.2.2.2.2.1, x.2.2.2.2.2.2.2.2.2.2.2.2.2.2.2.2.2.1, x.2.2.2.2.2.2.2.2.2.2.2.2.2.2.2.2.2.2.1, x.2.2.2.2.2.2.2.2.2.2.2.2.2.2.2.2.2.2.2.1, x.2.2.2.2.2.2.2.2.2.2.2.2.2.2.2.2.2.2.2.2.1, x.2.2.2.2.2.2.2.2.2.2.2.2.2.2.2.2.2.2.2.2.2.1, x.2.2.2.2.2.2.2.2.2.2.2.2.2.2.2.2.2.2.2.2.2.2.1, x.2.2.2.2.2.2.2.2.2.2.2.2.2.2.2.2.2.2.2.2.2.2.2) with | some y13 => (kn (x.1, x.2.1, (i64 (x.2.2.1 + 1)), x.2.2.2.1, x.2.2.2.2.1, x.2.2.2.2.2.1, x.2.2.2.2.2.2.1, x.2.2.2.2.2.2.2.1, x.2.2.2.2.2.2.2.2.1, x.2.2.2.2.2.2.2.2.2.1, x.2.2.2.2.2.2.2.2.2.2.1, x.2.2.2.2.2.2.2.2.2.2.2.1, y13.1, y13.2.1, y13.2.2.1, y13.2.2.2.1, y13.2.2.2.2.1, y13.2.2.2.2.2.1, y13.2.2.2.2.2.2.1, y13.2.2.2.2.2.2.2.1, y13.2.2.2.2.2.2.2.2.1, y13.2.2.2.2.2.2.2.2.2.1, y13.2.2.2.2.2.2.2.2.2.2.1, y13.2.2.2.2.2.2.2.2.2.2.2)) | none => none) else none) | _ => none) | none => none) | none => none) else none) | false => (ke (x.2.2.2.1, x.2.2.2.2.1, x.2.2.2.2.2.1, x.2.2.2.2.2.2.1, x.2.2.2.2.2.2.2.1, x.2.2.2.2.2.2.2.2.1, x.2.2.2.2.2.2.2.2.2.1, x.2.2.2.2.2.2.2.2.2.2.1, x.2.2.2.2.2.2.2.2.2.2.2.1, x.2.2.2.2.2.2.2.2.2.2.2.2.1, x.2.2.2.2.2.2.2.2.2.2.2.2.2.1, x.2.2.2.2.2.2.2.2.2.2.2.2.2.2.1, x.2.2.2.2.2.2.2.2.2.2.2.2.2.2.2.1, x.2.2.2.2.2.2.2.2.2.2.2.2.2.2.2.2.1, x.2.2.2.2.2.2.2.2.2.2.2.2.2.2.2.2.2.1, x.2.2.2.2.2.2.2.2.2.2.2.2.2.2.2.2.2.2.1, x.2.2.2.2.2.2.2.2.2.2.2.2.2.2.2.2.2.2.2.1, x.2.2.2.2.2.2.2.2.2.2.2.2.2.2.2.2.2.2.2.2.1, x.2.2.2.2.2.2.2.2.2.2.2.2.2.2.2.2.2.2.2.2.2.1, x.2.2.2.2.2.2.2.2.2.2.2.2.2.2.2.2.2.2.2.2.2.2.1, x.2.2.2.2.2.2.2.2.2.2.2.2.2.2.2.2.2.2.2.2.2.2.2)))
noncomputable abbrev F20_d16 (N : Nat) (x : (List (List AV)) × Int × Int × Int × Int × Int × Int × (List (List AV)) × Int × Int × Int × Int × Int × Int × Int × Int × (List (List AV)) × Int × Int × Int × Int × Int × Int × (List (List AV))) : Option ((Int × Int × Int × Int × (List (List AV)) × Int × Int × Int × Int × Int × Int × Int × Int × (List (List AV)) × Int × Int × Int × Int × Int × Int × (List (List AV)))) := (F20_l16 N).L N x
noncomputable def F20_s (N : Nat) : FSpec where
  X := Int × Int × Int × Int × (List (List AV)) × Int × Int × Int × Int × (List (List AV))
  Y := Int × Int × Int × Int × (List (List AV)) × Int × Int × Int × Int × (List (List AV)) × Int
  ash := [[none, none, none, none, some 1, none, none, none, none], [some 1]]
  bsh := []
  S := ⟨[[none, none, none, none, some 1, none, none, none, none], [some 2000003], [none]], [], [], [], []⟩
  bm := false
  pat := fun a b => match a, b with
    | [(AV.agg [(AV.v (.int .i64 a0)), (AV.v (.int .i64 a1)), (AV.v (.int .i64 a2)), (AV.v (.int .i64 a3)), (AV.list 1 a4 none), (AV.v (.int .i64 a5)), (AV.v (.int .i64 a6)), (AV.v (.int .i64 a7)), (AV.v (.int .i64 a8))]), (AV.list 1 a9 none)], [] => some (a0, a1, a2, a3, a4, a5, a6, a7, a8, a9)
    | _, _ => none
  args := fun x => [(AV.agg [(AV.v (.int .i64 x.1)), (AV.v (.int .i64 x.2.1)), (AV.v (.int .i64 x.2.2.1)), (AV.v (.int .i64 x.2.2.2.1)), (AV.list 1 x.2.2.2.2.1 none), (AV.v (.int .i64 x.2.2.2.2.2.1)), (AV.v (.int .i64 x.2.2.2.2.2.2.1)), (AV.v (.int .i64 x.2.2.2.2.2.2.2.1)), (AV.v (.int .i64 x.2.2.2.2.2.2.2.2.1))]), (AV.list 1 x.2.2.2.2.2.2.2.2.2 none)]
  bs := fun x => []
  ret := fun y => ⟨(AV.tup [(AV.agg [(AV.v (.int .i64 y.1)), (AV.v (.int .i64 y.2.1)), (AV.v (.int .i64 y.2.2.1)), (AV.v (.int .i64 y.2.2.2.1)), (AV.list 1 y.2.2.2.2.1 none), (AV.v (.int .i64 y.2.2.2.2.2.1)), (AV.v (.int .i64 y.2.2.2.2.2.2.1)), (AV.v (.int .i64 y.2.2.2.2.2.2.2.1)), (AV.v (.int .i64 y.2.2.2.2.2.2.2.2.1))]), (AV.list 3 y.2.2.2.2.2.2.2.2.2.1 (some 2560000001)), (AV.v (.int .i64 y.2.2.2.2.2.2.2.2.2.2))]), [], none, [], [2560000001], []⟩
  t := fun x α k => (match F31_d N (x.1, x.2.1, x.2.2.1, x.2.2.2.1, x.2.2.2.2.1, x.2.2.2.2.2.1, x.2.2.2.2.2.2.1, x.2.2.2.2.2.2.2.1, x.2.2.2.2.2.2.2.2.1) with | some y1 => (match (!y1) with | true => (k (0, 0, 0, 0, ([] : List (List AV)), 0, 0, 0, 0, ([] : List (List AV)), 1)) | false => (match (decide ((x.2.2.2.2.2.2.2.2.2.length : Int) > 65536)) with | true => (k (0, 0, 0, 0, ([] : List (List AV)), 0, 0, 0, 0, ([] : List (List AV)), 8)) | false => (match (decide ((i64 (x.2.2.2.2.2.1 + (x.2.2.2.2.2.2.2.2.2.length : Int))) > 16777216)) with | true => (k (0, 0, 0, 0, ([] : List (List AV)), 0, 0, 0, 0, ([] : List (List AV)), 8)) | false => (match F33_d N x.2.2.2.2.2.2.2.2.2 with | some y2 => (match y2 with | true => (k (0, 0, 0, 0, ([] : List (List AV)), 0, 0, 0, 0, ([] : List (List AV)), 2)) | false => (match F35_d N (x.1, x.2.1, x.2.2.1, x.2.2.2.1, x.2.2.2.2.1, x.2.2.2.2.2.1, x.2.2.2.2.2.2.1, x.2.2.2.2.2.2.2.1, x.2.2.2.2.2.2.2.2.1) with | some y3 => (match F20_d16 N (x.2.2.2.2.2.2.2.2.2, (x.2.2.2.2.2.2.2.2.2.length : Int), 0, 0, 0, 0, 0, ([] : List (List AV)), 0, 0, 0, 0, y3.1, y3.2.1, y3.2.2.1, y3.2.2.2.1, y3.2.2.2.2.1, y3.2.2.2.2.2.1, y3.2.2.2.2.2.2.1, y3.2.2.2.2.2.2.2.1, y3.2.2.2.2.2.2.2.2.1, y3.2.2.2.2.2.2.2.2.2.1, y3.2.2.2.2.2.2.2.2.2.2.1, y3.2.2.2.2.2.2.2.2.2.2.2) with | some y14 => (match F39_d N y14.2.2.2.2.2.2.2.2.2.2.2.2.2.1 with | some y15 => (k (y14.2.2.2.2.2.2.2.2.2.1, y14.2.2.2.2.2.2.2.2.2.2.1, y14.2.2.2.2.2.2.2.2.2.2.2.1, y14.2.2.2.2.2.2.2.2.2.2.2.2.1, y15, y14.2.2.2.2.2.2.2.2.2.2.2.2.2.2.1, y14.2.2.2.2.2.2.2.2.2.2.2.2.2.2.2.1, y14.2.2.2.2.2.2.2.2.2.2.2.2.2.2.2.2.1, y14.2.2.2.2.2.2.2.2.2.2.2.2.2.2.2.2.2.1, y14.2.2.2.2.2.2.2.2.2.2.2.2.2.2.2.2.2.2.2.2, 0)) | none => none) | none => none) | none => none)) | none => none)))) | none => none)
noncomputable abbrev F20_d (N : Nat) (x : Int × Int × Int × Int × (List (List AV)) × Int × Int × Int × Int × (List (List AV))) : Option (Int × Int × Int × Int × (List (List AV)) × Int × Int × Int × Int × (List (List AV)) × Int) := (F20_s N).d x
theorem F20_par16 (N : Nat) : Par (F20_l16 N).b := by
  intro x α β kn ke kn' ke' r r' h h1 h2
  revert h
  dsimp only [F20_l16]
  (repeat' (first | (with_reducible refine par_ite ?_ ?_) | (with_reducible refine par_both ?_ ?_) | split)) <;> intro h <;> first | exact h1 _ h | exact h2 _ h | (cases h; done)
theorem F20_body16 (N : Nat) (x : (F20_l16 N).X) (α : Type) (kn : AS → Option α) (ke : Out → Option α) : around (tabOf Try.prog) (F20_g N) F20_an (lam N [(16, F20_l16 N)]) 16 (bodyOf (nthLoop 16 (Try.f20.body.getD .skip))) ((F20_l16 N).st x) kn ke = (F20_l16 N).b x α (fun x' => kn ((F20_l16 N).st x')) (fun y => (F20_l16 N).sp y α ke) := by kernel_rfl
theorem F20_pat16 (N : Nat) (s : AS) (x : (F20_l16 N).X) (hc : s = canon (F20_an 16).1 s) (h : (F20_l16 N).p s = some x) : s = (F20_l16 N).st x := by
  dsimp only [F20_l16] at h
  split at h
  · cases h
    exact canon_mk hc ‹_› ‹_› rfl rfl rfl ⟨‹_›, ‹_›, ‹_›, ‹_›, ‹_›, trivial⟩ ⟨‹_›, ‹_›, trivial⟩
  · cases h
theorem F20_loop16 (N : Nat) : ∀ s o, s = canon (F20_an 16).1 s → (lam N [(16, F20_l16 N)]).v 16 s = some o → LoopSem Try.prog (nthLoop 16 (Try.f20.body.getD .skip)) s o :=
  loop_ok (tabOf_ok Try.prog) (gam_ok _) mixed F20_an N [(16, F20_l16 N)] 16 (bodyOf (nthLoop 16 (Try.f20.body.getD .skip))) (nthLoop 16 (Try.f20.body.getD .skip)) (by kernel_rfl) (by
    have e : actOf F20_an (bodyOf (nthLoop 16 (Try.f20.body.getD .skip))) (16 + 1) = [] := by kernel_rfl
    rw [e]
    intro p hp
    cases hp) (F20_l16 N) rfl (fun s x hc h => F20_pat16 N s x hc h) (fun x => rfl) (fun x α kn ke => (F20_body16 N x α kn ke).trans (congrArg ((F20_l16 N).b x α _) (funext fun y => (F20_l16 N).spe y α ke))) (F20_par16 N)
theorem F20_parF (N : Nat) : ParF (F20_s N).t := by
  intro x α β k k' r r' h h1
  revert h
  dsimp only [F20_s]
  (repeat' (first | (with_reducible refine par_ite ?_ ?_) | (with_reducible refine par_both ?_ ?_) | split)) <;> intro h <;> first | exact h1 _ h | (cases h; done)
theorem F20_text (N : Nat) (x : (F20_s N).X) : acall (tabOf Try.prog) (F20_g N) F20_an (lam N [(16, F20_l16 N)]) Try.f20 (F20_s N).S ((F20_s N).args x) ((F20_s N).bs x) = (F20_s N).t x Ret (fun y => some ((F20_s N).ret y)) := by kernel_rfl
theorem F20_pat (N : Nat) (a : List AV) (b : List (List AV)) (x : (F20_s N).X) (h : (F20_s N).pat a b = some x) : a = (F20_s N).args x ∧ b = (F20_s N).bs x := by
  dsimp only [F20_s] at h
  split at h
  · cases h; exact ⟨rfl, rfl⟩
  · cases h
noncomputable def F20_e (N : Nat) : Ent Try.prog := entOf (tabOf_ok Try.prog) (gam_ok _) mixed 20 Try.f20 Try.func20 rfl F20_an (lam N [(16, F20_l16 N)]) (by
    have e : actOf F20_an (Try.f20.body.getD .skip) 0 = [(16, nthLoop 16 (Try.f20.body.getD .skip))] := by kernel_rfl
    rw [e]
    intro p hp
    rcases List.mem_cons.1 hp with rfl | hp
    · exact F20_loop16 N
    cases hp) (F20_s N) (fun _ => ⟨rfl, rfl⟩) (F20_text N) (F20_pat N) (F20_parF N)
/-! ### seismonet/seismonetref22.Valid (function 26) -/
def F26_an : Nat → Keep × Keep := anL []
noncomputable def F26_g (N : Nat) : GamK := gam (P := Try.prog) []
noncomputable def F26_s (N : Nat) : FSpec where
  X := Int × Int × Int × Int
  Y := Bool
  ash := [[none, none, none, none]]
  bsh := []
  S := ⟨[[none]], [], [], [], []⟩
  bm := false
  pat := fun a b => match a, b with
    | [(AV.agg [(AV.v (.int .i64 a0)), (AV.v (.int .i64 a1)), (AV.v (.int .i64 a2)), (AV.v (.int .i64 a3))])], [] => some (a0, a1, a2, a3)
    | _, _ => none
  args := fun x => [(AV.agg [(AV.v (.int .i64 x.1)), (AV.v (.int .i64 x.2.1)), (AV.v (.int .i64 x.2.2.1)), (AV.v (.int .i64 x.2.2.2))])]
  bs := fun x => []
  ret := fun y => ⟨(AV.v (.bool y)), [], none, [], [], []⟩
  t := fun x α k => (match (decide (1 ≤ x.1)) with | true => (match (decide (x.1 < x.2.1)) with | true => (match (decide (x.2.1 ≤ 512)) with | true => (match (decide (1 ≤ x.2.2.2)) with | true => (match (decide (x.2.2.2 ≤ x.2.2.1)) with | true => (k (decide (x.2.2.1 ≤ 10000))) | false => (k false)) | false => (k false)) | false => (k false)) | false => (k false)) | false => (k false))
noncomputable abbrev F26_d (N : Nat) (x : Int × Int × Int × Int) : Option (Bool) := (F26_s N).d x
theorem F26_parF (N : Nat) : ParF (F26_s N).t := by
  intro x α β k k' r r' h h1
  revert h
  dsimp only [F26_s]
  (repeat' (first | (with_reducible refine par_ite ?_ ?_) | (with_reducible refine par_both ?_ ?_) | split)) <;> intro h <;> first | exact h1 _ h | (cases h; done)
theorem F26_text (N : Nat) (x : (F26_s N).X) : acall (tabOf Try.prog) (F26_g N) F26_an (lam N []) Try.f26 (F26_s N).S ((F26_s N).args x) ((F26_s N).bs x) = (F26_s N).t x Ret (fun y => some ((F26_s N).ret y)) := by kernel_rfl
theorem F26_pat (N : Nat) (a : List AV) (b : List (List AV)) (x : (F26_s N).X) (h : (F26_s N).pat a b = some x) : a = (F26_s N).args x ∧ b = (F26_s N).bs x := by
  dsimp only [F26_s] at h
  split at h
  · cases h; exact ⟨rfl, rfl⟩
  · cases h
noncomputable def F26_e (N : Nat) : Ent Try.prog := entOf (tabOf_ok Try.prog) (gam_ok _) mixed 26 Try.f26 Try.func26 rfl F26_an (lam N []) (by
    have e : actOf F26_an (Try.f26.body.getD .skip) 0 = [] := by kernel_rfl
    rw [e]
    intro p hp
    cases hp) (F26_s N) (fun _ => ⟨rfl, rfl⟩) (F26_text N) (F26_pat N) (F26_parF N)
/-! ### seismonet/seismonetref01.In (function 40) -/
def F40_an : Nat → Keep × Keep := anL []
noncomputable def F40_g (N : Nat) : GamK := gam (P := Try.prog) []
noncomputable def F40_s (N : Nat) : FSpec where
  X := Int × Int × Int
  Y := Bool
  ash := [[none], [none], [none]]
  bsh := []
  S := ⟨[[none]], [], [], [], []⟩
  bm := false
  pat := fun a b => match a, b with
    | [(AV.v (.int .i64 a0)), (AV.v (.int .i64 a1)), (AV.v (.int .i64 a2))], [] => some (a0, a1, a2)
    | _, _ => none
  args := fun x => [(AV.v (.int .i64 x.1)), (AV.v (.int .i64 x.2.1)), (AV.v (.int .i64 x.2.2))]
  bs := fun x => []
  ret := fun y => ⟨(AV.v (.bool y)), [], none, [], [], []⟩
  t := fun x α k => (match (decide (x.1 ≥ x.2.1)) with | true => (k (decide (x.1 ≤ x.2.2))) | false => (k false))
noncomputable abbrev F40_d (N : Nat) (x : Int × Int × Int) : Option (Bool) := (F40_s N).d x
theorem F40_parF (N : Nat) : ParF (F40_s N).t := by
  intro x α β k k' r r' h h1
  revert h
  dsimp only [F40_s]
  (repeat' (first | (with_reducible refine par_ite ?_ ?_) | (with_reducible refine par_both ?_ ?_) | split)) <;> intro h <;> first | exact h1 _ h | (cases h; done)
theorem F40_text (N : Nat) (x : (F40_s N).X) : acall (tabOf Try.prog) (F40_g N) F40_an (lam N []) Try.f40 (F40_s N).S ((F40_s N).args x) ((F40_s N).bs x) = (F40_s N).t x Ret (fun y => some ((F40_s N).ret y)) := by kernel_rfl
theorem F40_pat (N : Nat) (a : List AV) (b : List (List AV)) (x : (F40_s N).X) (h : (F40_s N).pat a b = some x) : a = (F40_s N).args x ∧ b = (F40_s N).bs x := by
  dsimp only [F40_s] at h
  split at h
  · cases h; exact ⟨rfl, rfl⟩
  · cases h
noncomputable def F40_e (N : Nat) : Ent Try.prog := entOf (tabOf_ok Try.prog) (gam_ok _) mixed 40 Try.f40 Try.func40 rfl F40_an (lam N []) (by
    have e : actOf F40_an (Try.f40.body.getD .skip) 0 = [] := by kernel_rfl
    rw [e]
    intro p hp
    cases hp) (F40_s N) (fun _ => ⟨rfl, rfl⟩) (F40_text N) (F40_pat N) (F40_parF N)
/-! ### seismonet/seismonetref22.ValidWatch (function 21) -/
def F21_an : Nat → Keep × Keep := anL [(9, ⟨[1, 3, 4], [], [1, 3], [], [], [], [], [], false⟩, ⟨[1, 2, 3], [], [1, 3], [], [], [], [], [], false⟩)]
noncomputable def F21_g (N : Nat) : GamK := gam (P := Try.prog) [F26_e N, F40_e N]
noncomputable def F21_l9 (N : Nat) : LSpec where
  X := Int × Int × Int × Int × Int × (List (List AV)) × Int × Int × Int × Int × Int × Int × Int × Int
  Y := (Bool × Int × Int × Int × Int × (List (List AV)) × Int × Int × Int × Int × Int × Int × Int × Int) ⊕ (Int × Int × Int × Int × (List (List AV)) × Int × Int × Int × Int × Int × Int × Int × Int)
  p := fun s => match s.env.length, s.nin, s.at 1, s.at 3, s.at 4, s.bx 1, s.bx 3 with
    | 96, 0, (AV.ptr 1 0), (AV.ptr 3 0), (AV.v (.int .i64 a0)), some [(AV.v (.int .i64 a1)), (AV.v (.int .i64 a2)), (AV.v (.int .i64 a3)), (AV.v (.int .i64 a4)), (AV.list 1 a5 none), (AV.v (.int .i64 a6)), (AV.v (.int .i64 a7)), (AV.v (.int .i64 a8)), (AV.v (.int .i64 a9))], some [(AV.v (.int .i64 a10)), (AV.v (.int .i64 a11)), (AV.v (.int .i64 a12)), (AV.v (.int .i64 a13))] => some (a0, a1, a2, a3, a4, a5, a6, a7, a8, a9, a10, a11, a12, a13)
    | _, _, _, _, _, _, _ => none
  st := fun x => mkS 96 [(1, (AV.ptr 1 0)), (3, (AV.ptr 3 0)), (4, (AV.v (.int .i64 x.1)))] [(1, [(AV.v (.int .i64 x.2.1)), (AV.v (.int .i64 x.2.2.1)), (AV.v (.int .i64 x.2.2.2.1)), (AV.v (.int .i64 x.2.2.2.2.1)), (AV.list 1 x.2.2.2.2.2.1 none), (AV.v (.int .i64 x.2.2.2.2.2.2.1)), (AV.v (.int .i64 x.2.2.2.2.2.2.2.1)), (AV.v (.int .i64 x.2.2.2.2.2.2.2.2.1)), (AV.v (.int .i64 x.2.2.2.2.2.2.2.2.2.1))]), (3, [(AV.v (.int .i64 x.2.2.2.2.2.2.2.2.2.2.1)), (AV.v (.int .i64 x.2.2.2.2.2.2.2.2.2.2.2.1)), (AV.v (.int .i64 x.2.2.2.2.2.2.2.2.2.2.2.2.1)), (AV.v (.int .i64 x.2.2.2.2.2.2.2.2.2.2.2.2.2))])] (F21_an 9).1.toks 0
  out := fun y => match y with
    | .inl y => (.ret, mkS 96 [(1, (AV.ptr 1 0)), (2, (AV.v (.bool y.1))), (3, (AV.ptr 3 0))] [(1, [(AV.v (.int .i64 y.2.1)), (AV.v (.int .i64 y.2.2.1)), (AV.v (.int .i64 y.2.2.2.1)), (AV.v (.int .i64 y.2.2.2.2.1)), (AV.list 1 y.2.2.2.2.2.1 none), (AV.v (.int .i64 y.2.2.2.2.2.2.1)), (AV.v (.int .i64 y.2.2.2.2.2.2.2.1)), (AV.v (.int .i64 y.2.2.2.2.2.2.2.2.1)), (AV.v (.int .i64 y.2.2.2.2.2.2.2.2.2.1))]), (3, [(AV.v (.int .i64 y.2.2.2.2.2.2.2.2.2.2.1)), (AV.v (.int .i64 y.2.2.2.2.2.2.2.2.2.2.2.1)), (AV.v (.int .i64 y.2.2.2.2.2.2.2.2.2.2.2.2.1)), (AV.v (.int .i64 y.2.2.2.2.2.2.2.2.2.2.2.2.2))])] (F21_an 9).2.toks 0)
    | .inr y => (.exit 0, mkS 96 [(1, (AV.ptr 1 0)), (3, (AV.ptr 3 0))] [(1, [(AV.v (.int .i64 y.1)), (AV.v (.int .i64 y.2.1)), (AV.v (.int .i64 y.2.2.1)), (AV.v (.int .i64 y.2.2.2.1)), (AV.list 1 y.2.2.2.2.1 none), (AV.v (.int .i64 y.2.2.2.2.2.1)), (AV.v (.int .i64 y.2.2.2.2.2.2.1)), (AV.v (.int .i64 y.2.2.2.2.2.2.2.1)), (AV.v (.int .i64 y.2.2.2.2.2.2.2.2.1))]), (3, [(AV.v (.int .i64 y.2.2.2.2.2.2.2.2.2.1)), (AV.v (.int .i64 y.2.2.2.2.2.2.2.2.2.2.1)), (AV.v (.int .i64 y.2.2.2.2.2.2.2.2.2.2.2.1)), (AV.v (.int .i64 y.2.2.2.2.2.2.2.2.2.2.2.2))])] (F21_an 9).2.toks 0)
  sp := fun y α k => match y with
    | .inl y => k (.ret, mkS 96 [(1, (AV.ptr 1 0)), (2, (AV.v (.bool y.1))), (3, (AV.ptr 3 0))] [(1, [(AV.v (.int .i64 y.2.1)), (AV.v (.int .i64 y.2.2.1)), (AV.v (.int .i64 y.2.2.2.1)), (AV.v (.int .i64 y.2.2.2.2.1)), (AV.list 1 y.2.2.2.2.2.1 none), (AV.v (.int .i64 y.2.2.2.2.2.2.1)), (AV.v (.int .i64 y.2.2.2.2.2.2.2.1)), (AV.v (.int .i64 y.2.2.2.2.2.2.2.2.1)), (AV.v (.int .i64 y.2.2.2.2.2.2.2.2.2.1))]), (3, [(AV.v (.int .i64 y.2.2.2.2.2.2.2.2.2.2.1)), (AV.v (.int .i64 y.2.2.2.2.2.2.2.2.2.2.2.1)), (AV.v (.int .i64 y.2.2.2.2.2.2.2.2.2.2.2.2.1)), (AV.v (.int .i64 y.2.2.2.2.2.2.2.2.2.2.2.2.2))])] (F21_an 9).2.toks 0)
    | .inr y => k (.exit 0, mkS 96 [(1, (AV.ptr 1 0)), (3, (AV.ptr 3 0))] [(1, [(AV.v (.int .i64 y.1)), (AV.v (.int .i64 y.2.1)), (AV.v (.int .i64 y.2.2.1)), (AV.v (.int .i64 y.2.2.2.1)), (AV.list 1 y.2.2.2.2.1 none), (AV.v (.int .i64 y.2.2.2.2.2.1)), (AV.v (.int .i64 y.2.2.2.2.2.2.1)), (AV.v (.int .i64 y.2.2.2.2.2.2.2.1)), (AV.v (.int .i64 y.2.2.2.2.2.2.2.2.1))]), (3, [(AV.v (.int .i64 y.2.2.2.2.2.2.2.2.2.1)), (AV.v (.int .i64 y.2.2.2.2.2.2.2.2.2.2.1)), (AV.v (.int .i64 y.2.2.2.2.2.2.2.2.2.2.2.1)), (AV.v (.int .i64 y.2.2.2.2.2.2.2.2.2.2.2.2))])] (F21_an 9).2.toks 0)
  spe := fun y α k => by rcases y with _ | _ <;> rfl
  b := fun x α kn ke => (match (decide (x.1 < (x.2.2.2.2.2.1.length : Int))) with | true => (if 0 ≤ x.1 then (match x.2.2.2.2.2.1[x.1.toNat]? with | some c8 => (match c8[0]? with | some x9 => (match x9 with | .v (.int q11 n10) => (if q11 = .i64 then (match F40_d N (n10, 0, 1073741823) with | some y12 => (match (!y12) with | true => (ke (.inl (false, x.2.1, x.2.2.1, x.2.2.2.1, x.2.2.2.2.1, x.2.2.2.2.2.1, x.2.2.2.2.2.2.1, x.2.2.2.2.2.2.2.1, x.2.2.2.2.2.2.2.2.1, x.2.2.2.2.2.2.2.2.2.1, x.2.2.2.2.2.2.2.2.2.2.1, x.2.2.2.2.2.2.2.2.2.2.2.1, x.2.2.2.2.2.2.2.2.2.2.2.2.1, x.2.2.2.2.2.2.2.2.2.2.2.2.2))) | false => (kn ((i64 (x.1 + 1)), x.2.1, x.2.2.1, x.2.2.2.1, x.2.2.2.2.1, x.2.2.2.2.2.1, x.2.2.2.2.2.2.1, x.2.2.2.2.2.2.2.1, x.2.2.2.2.2.2.2.2.1, x.2.2.2.2.2.2.2.2.2.1, x.2.2.2.2.2.2.2.2.2.2.1, x.2.2.2.2.2.2.2.2.2.2.2.1, x.2.2.2.2.2.2.2.2.2.2.2.2.1, x.2.2.2.2.2.2.2.2.2.2.2.2.2))) | none => none) else none) | _ => none) | none => none) | none => none) else none) | false => (ke (.inr (x.2.1, x.2.2.1, x.2.2.2.1, x.2.2.2.2.1, x.2.2.2.2.2.1, x.2.2.2.2.2.2.1, x.2.2.2.2.2.2.2.1, x.2.2.2.2.2.2.2.2.1, x.2.2.2.2.2.2.2.2.2.1, x.2.2.2.2.2.2.2.2.2.2.1, x.2.2.2.2.2.2.2.2.2.2.2.1, x.2.2.2.2.2.2.2.2.2.2.2.2.1, x.2.2.2.2.2.2.2.2.2.2.2.2.2))))
noncomputable abbrev F21_d9 (N : Nat) (x : Int × Int × Int × Int × Int × (List (List AV)) × Int × Int × Int × Int × Int × Int × Int × Int) : Option ((Bool × Int × Int × Int × Int × (List (List AV)) × Int × Int × Int × Int × Int × Int × Int × Int) ⊕ (Int × Int × Int × Int × (List (List AV)) × Int × Int × Int × Int × Int × Int × Int × Int)) := (F21_l9 N).L N x
noncomputable def F21_s (N : Nat) : FSpec where
  X := Int × Int × Int × Int × (List (List AV)) × Int × Int × Int × Int
  Y := Bool
  ash := [[none, none, none, none, some 1, none, none, none, none]]
  bsh := []
  S := ⟨[[none]], [], [], [], []⟩
  bm := false
  pat := fun a b => match a, b with
    | [(AV.agg [(AV.v (.int .i64 a0)), (AV.v (.int .i64 a1)), (AV.v (.int .i64 a2)), (AV.v (.int .i64 a3)), (AV.list 1 a4 none), (AV.v (.int .i64 a5)), (AV.v (.int .i64 a6)), (AV.v (.int .i64 a7)), (AV.v (.int .i64 a8))])], [] => some (a0, a1, a2, a3, a4, a5, a6, a7, a8)
    | _, _ => none
  args := fun x => [(AV.agg [(AV.v (.int .i64 x.1)), (AV.v (.int .i64 x.2.1)), (AV.v (.int .i64 x.2.2.1)), (AV.v (.int .i64 x.2.2.2.1)), (AV.list 1 x.2.2.2.2.1 none), (AV.v (.int .i64 x.2.2.2.2.2.1)), (AV.v (.int .i64 x.2.2.2.2.2.2.1)), (AV.v (.int .i64 x.2.2.2.2.2.2.2.1)), (AV.v (.int .i64 x.2.2.2.2.2.2.2.2))])]
  bs := fun x => []
  ret := fun y => ⟨(AV.v (.bool y)), [], none, [], [], []⟩
  t := fun x α k => (match F26_d N (x.1, x.2.1, x.2.2.1, x.2.2.2.1) with | some y1 => (match (!y1) with | true => (k false) | false => (match (decide ((x.2.2.2.2.1.length : Int) > (i64 (x.2.1 - 1)))) with | true => (k false) | false => (match F40_d N (x.2.2.2.2.2.1, (x.2.2.2.2.1.length : Int), 16777216) with | some y2 => (match (!y2) with | true => (k false) | false => (match (decide ((x.2.2.2.2.1.length : Int) < (i64 (x.2.1 - 1)))) with | true => (match (x.2.2.2.2.2.1 != (x.2.2.2.2.1.length : Int)) with | true => (k false) | false => (match F21_d9 N (0, x.1, x.2.1, x.2.2.1, x.2.2.2.1, x.2.2.2.2.1, x.2.2.2.2.2.1, x.2.2.2.2.2.2.1, x.2.2.2.2.2.2.2.1, x.2.2.2.2.2.2.2.2, x.1, x.2.1, x.2.2.1, x.2.2.2.1) with | some y13 => (match y13 with | .inl z14 => (k z14.1) | .inr z15 => (match (z15.2.2.2.2.2.2.1 == (-1)) with | true => (match (z15.2.2.2.2.2.2.2.1 == 0) with | true => (k (z15.2.2.2.2.2.2.2.2.1 == 0)) | false => (k false)) | false => (match F40_d N (z15.2.2.2.2.2.2.1, 0, (i64 (z15.2.2.2.2.2.1 - 1))) with | some y16 => (match y16 with | true => (match (decide (z15.2.2.2.2.2.1 ≥ z15.2.2.2.2.2.2.2.2.2.2.1)) with | true => (match (z15.2.2.2.2.2.2.2.1 == (-1)) with | true => (match F40_d N (z15.2.2.2.2.2.2.2.2.1, 0, 1073741823) with | some y17 => (k y17) | none => none) | false => (k false)) | false => (k false)) | false => (k false)) | none => none))) | none => none)) | false => (match F21_d9 N (0, x.1, x.2.1, x.2.2.1, x.2.2.2.1, x.2.2.2.2.1, x.2.2.2.2.2.1, x.2.2.2.2.2.2.1, x.2.2.2.2.2.2.2.1, x.2.2.2.2.2.2.2.2, x.1, x.2.1, x.2.2.1, x.2.2.2.1) with | some y18 => (match y18 with | .inl z19 => (k z19.1) | .inr z20 => (match (z20.2.2.2.2.2.2.1 == (-1)) with | true => (match (z20.2.2.2.2.2.2.2.1 == 0) with | true => (k (z20.2.2.2.2.2.2.2.2.1 == 0)) | false => (k false)) | false => (match F40_d N (z20.2.2.2.2.2.2.1, 0, (i64 (z20.2.2.2.2.2.1 - 1))) with | some y21 => (match y21 with | true => (match (decide (z20.2.2.2.2.2.1 ≥ z20.2.2.2.2.2.2.2.2.2.2.1)) with | true => (match (z20.2.2.2.2.2.2.2.1 == (-1)) with | true => (match F40_d N (z20.2.2.2.2.2.2.2.2.1, 0, 1073741823) with | some y22 => (k y22) | none => none) | false => (k false)) | false => (k false)) | false => (k false)) | none => none))) | none => none))) | none => none))) | none => none)
noncomputable abbrev F21_d (N : Nat) (x : Int × Int × Int × Int × (List (List AV)) × Int × Int × Int × Int) : Option (Bool) := (F21_s N).d x
theorem F21_par9 (N : Nat) : Par (F21_l9 N).b := by
  intro x α β kn ke kn' ke' r r' h h1 h2
  revert h
  dsimp only [F21_l9]
  (repeat' (first | (with_reducible refine par_ite ?_ ?_) | (with_reducible refine par_both ?_ ?_) | split)) <;> intro h <;> first | exact h1 _ h | exact h2 _ h | (cases h; done)
theorem F21_body9 (N : Nat) (x : (F21_l9 N).X) (α : Type) (kn : AS → Option α) (ke : Out → Option α) : around (tabOf Try.prog) (F21_g N) F21_an (lam N [(9, F21_l9 N)]) 9 (bodyOf (nthLoop 9 (Try.f21.body.getD .skip))) ((F21_l9 N).st x) kn ke = (F21_l9 N).b x α (fun x' => kn ((F21_l9 N).st x')) (fun y => (F21_l9 N).sp y α ke) := by kernel_rfl
theorem F21_pat9 (N : Nat) (s : AS) (x : (F21_l9 N).X) (hc : s = canon (F21_an 9).1 s) (h : (F21_l9 N).p s = some x) : s = (F21_l9 N).st x := by
  dsimp only [F21_l9] at h
  split at h
  · cases h
    exact canon_mk hc ‹_› ‹_› rfl rfl rfl ⟨‹_›, ‹_›, ‹_›, trivial⟩ ⟨‹_›, ‹_›, trivial⟩
  · cases h
theorem F21_loop9 (N : Nat) : ∀ s o, s = canon (F21_an 9).1 s → (lam N [(9, F21_l9 N)]).v 9 s = some o → LoopSem Try.prog (nthLoop 9 (Try.f21.body.getD .skip)) s o :=
  loop_ok (tabOf_ok Try.prog) (gam_ok _) mixed F21_an N [(9, F21_l9 N)] 9 (bodyOf (nthLoop 9 (Try.f21.body.getD .skip))) (nthLoop 9 (Try.f21.body.getD .skip)) (by kernel_rfl) (by
    have e : actOf F21_an (bodyOf (nthLoop 9 (Try.f21.body.getD .skip))) (9 + 1) = [] := by kernel_rfl
    rw [e]
    intro p hp
    cases hp) (F21_l9 N) rfl (fun s x hc h => F21_pat9 N s x hc h) (fun x => rfl) (fun x α kn ke => (F21_body9 N x α kn ke).trans (congrArg ((F21_l9 N).b x α _) (funext fun y => (F21_l9 N).spe y α ke))) (F21_par9 N)
theorem F21_parF (N : Nat) : ParF (F21_s N).t := by
  intro x α β k k' r r' h h1
  revert h
  dsimp only [F21_s]
  (repeat' (first | (with_reducible refine par_ite ?_ ?_) | (with_reducible refine par_both ?_ ?_) | split)) <;> intro h <;> first | exact h1 _ h | (cases h; done)
theorem F21_text (N : Nat) (x : (F21_s N).X) : acall (tabOf Try.prog) (F21_g N) F21_an (lam N [(9, F21_l9 N)]) Try.f21 (F21_s N).S ((F21_s N).args x) ((F21_s N).bs x) = (F21_s N).t x Ret (fun y => some ((F21_s N).ret y)) := by kernel_rfl
theorem F21_pat (N : Nat) (a : List AV) (b : List (List AV)) (x : (F21_s N).X) (h : (F21_s N).pat a b = some x) : a = (F21_s N).args x ∧ b = (F21_s N).bs x := by
  dsimp only [F21_s] at h
  split at h
  · cases h; exact ⟨rfl, rfl⟩
  · cases h
noncomputable def F21_e (N : Nat) : Ent Try.prog := entOf (tabOf_ok Try.prog) (gam_ok _) mixed 21 Try.f21 Try.func21 rfl F21_an (lam N [(9, F21_l9 N)]) (by
    have e : actOf F21_an (Try.f21.body.getD .skip) 0 = [(9, nthLoop 9 (Try.f21.body.getD .skip))] := by kernel_rfl
    rw [e]
    intro p hp
    rcases List.mem_cons.1 hp with rfl | hp
    · exact F21_loop9 N
    cases hp) (F21_s N) (fun _ => ⟨rfl, rfl⟩) (F21_text N) (F21_pat N) (F21_parF N)
/-! ### seismonet/detector.Finish (function 22) -/
def F22_an : Nat → Keep × Keep := anL []
noncomputable def F22_g (N : Nat) : GamK := gam (P := Try.prog) [F31_e N]
noncomputable def F22_s (N : Nat) : FSpec where
  X := Int × Int × Int × Int × (List (List AV)) × Int × Int × Int × Int
  Y := (List (List AV)) × Int
  ash := [[none, none, none, none, some 1, none, none, none, none]]
  bsh := []
  S := ⟨[[some 2000003], [none]], [], [], [], []⟩
  bm := false
  pat := fun a b => match a, b with
    | [(AV.agg [(AV.v (.int .i64 a0)), (AV.v (.int .i64 a1)), (AV.v (.int .i64 a2)), (AV.v (.int .i64 a3)), (AV.list 1 a4 none), (AV.v (.int .i64 a5)), (AV.v (.int .i64 a6)), (AV.v (.int .i64 a7)), (AV.v (.int .i64 a8))])], [] => some (a0, a1, a2, a3, a4, a5, a6, a7, a8)
    | _, _ => none
  args := fun x => [(AV.agg [(AV.v (.int .i64 x.1)), (AV.v (.int .i64 x.2.1)), (AV.v (.int .i64 x.2.2.1)), (AV.v (.int .i64 x.2.2.2.1)), (AV.list 1 x.2.2.2.2.1 none), (AV.v (.int .i64 x.2.2.2.2.2.1)), (AV.v (.int .i64 x.2.2.2.2.2.2.1)), (AV.v (.int .i64 x.2.2.2.2.2.2.2.1)), (AV.v (.int .i64 x.2.2.2.2.2.2.2.2))])]
  bs := fun x => []
  ret := fun y => ⟨(AV.tup [(AV.list 3 y.1 (some 2560000000)), (AV.v (.int .i64 y.2))]), [], none, [], [2560000000], []⟩
  t := fun x α k => (match F31_d N (x.1, x.2.1, x.2.2.1, x.2.2.2.1, x.2.2.2.2.1, x.2.2.2.2.2.1, x.2.2.2.2.2.2.1, x.2.2.2.2.2.2.2.1, x.2.2.2.2.2.2.2.2) with | some y1 => (match (!y1) with | true => (k (([] : List (List AV)), 1)) | false => (match (decide (x.2.2.2.2.2.2.1 < 0)) with | true => (k (([] : List (List AV)), 0)) | false => (k ([[(AV.v (.int .i64 x.2.2.2.2.2.2.1)), (AV.v (.int .i64 x.2.2.2.2.2.2.2.1)), (AV.v (.int .i64 x.2.2.2.2.2.2.2.2))]], 0)))) | none => none)
noncomputable abbrev F22_d (N : Nat) (x : Int × Int × Int × Int × (List (List AV)) × Int × Int × Int × Int) : Option ((List (List AV)) × Int) := (F22_s N).d x
theorem F22_parF (N : Nat) : ParF (F22_s N).t := by
  intro x α β k k' r r' h h1
  revert h
  dsimp only [F22_s]
  (repeat' (first | (with_reducible refine par_ite ?_ ?_) | (with_reducible refine par_both ?_ ?_) | split)) <;> intro h <;> first | exact h1 _ h | (cases h; done)
theorem F22_text (N : Nat) (x : (F22_s N).X) : acall (tabOf Try.prog) (F22_g N) F22_an (lam N []) Try.f22 (F22_s N).S ((F22_s N).args x) ((F22_s N).bs x) = (F22_s N).t x Ret (fun y => some ((F22_s N).ret y)) := by kernel_rfl
theorem F22_pat (N : Nat) (a : List AV) (b : List (List AV)) (x : (F22_s N).X) (h : (F22_s N).pat a b = some x) : a = (F22_s N).args x ∧ b = (F22_s N).bs x := by
  dsimp only [F22_s] at h
  split at h
  · cases h; exact ⟨rfl, rfl⟩
  · cases h
noncomputable def F22_e (N : Nat) : Ent Try.prog := entOf (tabOf_ok Try.prog) (gam_ok _) mixed 22 Try.f22 Try.func22 rfl F22_an (lam N []) (by
    have e : actOf F22_an (Try.f22.body.getD .skip) 0 = [] := by kernel_rfl
    rw [e]
    intro p hp
    cases hp) (F22_s N) (fun _ => ⟨rfl, rfl⟩) (F22_text N) (F22_pat N) (F22_parF N)
/-! ### seismonet/seismonetlaw22.DetectorStream (function 6) -/
def F6_an : Nat → Keep × Keep := anL [(12, ⟨[3, 4, 6, 7, 9], [(8, 3)], [4, 6, 23], [(5, 1)], [], [], [], [], false⟩, ⟨[2, 4, 6, 7], [(8, 3)], [4, 6], [(5, 1)], [], [], [], [], false⟩)]
noncomputable def F6_g (N : Nat) : GamK := gam (P := Try.prog) [F8_e N, F9_e N, F10_e N, F11_e N, F12_e N, F18_e N, F19_e N, F20_e N, F21_e N, F22_e N, F13_e N, F15_e N]
noncomputable def F6_l12 (N : Nat) : LSpec where
  X := (List (List AV)) × (List (List AV)) × Int × Int × Int × Int × Int × Int × Int × Int × Int × Int × (List (List AV)) × Int × Int × Int × Int × (List (List AV)) × Int
  Y := ((List (List AV)) × (List (List AV)) × Bool × Int × Int × Int × Int × Int × Int × Int × Int × Int × (List (List AV)) × Int × Int × Int × Int) ⊕ ((List (List AV)) × (List (List AV)) × Int × Int × Int × Int × Int × Int × Int × Int × Int × (List (List AV)) × Int × Int × Int × Int)
  p := fun s => match s.env.length, s.nin, s.at 8, s.at 5, s.at 3, s.at 4, s.at 6, s.at 7, s.at 9, s.bx 4, s.bx 6, s.bx 23 with
    | 109, 0, (AV.list 3 a0 (some 1280000512)), (AV.list 1 a1 none), (AV.ptr 23 0), (AV.ptr 4 0), (AV.ptr 6 0), (AV.v (.int .i64 a2)), (AV.v (.int .i64 a3)), some [(AV.v (.int .i64 a4)), (AV.v (.int .i64 a5)), (AV.v (.int .i64 a6)), (AV.v (.int .i64 a7))], some [(AV.v (.int .i64 a8)), (AV.v (.int .i64 a9)), (AV.v (.int .i64 a10)), (AV.v (.int .i64 a11)), (AV.list 1 a12 none), (AV.v (.int .i64 a13)), (AV.v (.int .i64 a14)), (AV.v (.int .i64 a15)), (AV.v (.int .i64 a16))], some [(AV.list 1 a17 none), (AV.v (.int .i64 a18))] => some (a0, a1, a2, a3, a4, a5, a6, a7, a8, a9, a10, a11, a12, a13, a14, a15, a16, a17, a18)
    | _, _, _, _, _, _, _, _, _, _, _, _ => none
  st := fun x => mkS 109 [(8, (AV.list 3 x.1 (some 1280000512))), (5, (AV.list 1 x.2.1 none)), (3, (AV.ptr 23 0)), (4, (AV.ptr 4 0)), (6, (AV.ptr 6 0)), (7, (AV.v (.int .i64 x.2.2.1))), (9, (AV.v (.int .i64 x.2.2.2.1)))] [(4, [(AV.v (.int .i64 x.2.2.2.2.1)), (AV.v (.int .i64 x.2.2.2.2.2.1)), (AV.v (.int .i64 x.2.2.2.2.2.2.1)), (AV.v (.int .i64 x.2.2.2.2.2.2.2.1))]), (6, [(AV.v (.int .i64 x.2.2.2.2.2.2.2.2.1)), (AV.v (.int .i64 x.2.2.2.2.2.2.2.2.2.1)), (AV.v (.int .i64 x.2.2.2.2.2.2.2.2.2.2.1)), (AV.v (.int .i64 x.2.2.2.2.2.2.2.2.2.2.2.1)), (AV.list 1 x.2.2.2.2.2.2.2.2.2.2.2.2.1 none), (AV.v (.int .i64 x.2.2.2.2.2.2.2.2.2.2.2.2.2.1)), (AV.v (.int .i64 x.2.2.2.2.2.2.2.2.2.2.2.2.2.2.1)), (AV.v (.int .i64 x.2.2.2.2.2.2.2.2.2.2.2.2.2.2.2.1)), (AV.v (.int .i64 x.2.2.2.2.2.2.2.2.2.2.2.2.2.2.2.2.1))]), (23, [(AV.list 1 x.2.2.2.2.2.2.2.2.2.2.2.2.2.2.2.2.2.1 none), (AV.v (.int .i64 x.2.2.2.2.2.2.2.2.2.2.2.2.2.2.2.2.2.2))])] (F6_an 12).1.toks 0
  out := fun y => match y with
    | .inl y => (.ret, mkS 109 [(8, (AV.list 3 y.1 (some 1280000512))), (5, (AV.list 1 y.2.1 none)), (2, (AV.v (.bool y.2.2.1))), (4, (AV.ptr 4 0)), (6, (AV.ptr 6 0)), (7, (AV.v (.int .i64 y.2.2.2.1)))] [(4, [(AV.v (.int .i64 y.2.2.2.2.1)), (AV.v (.int .i64 y.2.2.2.2.2.1)), (AV.v (.int .i64 y.2.2.2.2.2.2.1)), (AV.v (.int .i64 y.2.2.2.2.2.2.2.1))]), (6, [(AV.v (.int .i64 y.2.2.2.2.2.2.2.2.1)), (AV.v (.int .i64 y.2.2.2.2.2.2.2.2.2.1)), (AV.v (.int .i64 y.2.2.2.2.2.2.2.2.2.2.1)), (AV.v (.int .i64 y.2.2.2.2.2.2.2.2.2.2.2.1)), (AV.list 1 y.2.2.2.2.2.2.2.2.2.2.2.2.1 none), (AV.v (.int .i64 y.2.2.2.2.2.2.2.2.2.2.2.2.2.1)), (AV.v (.int .i64 y.2.2.2.2.2.2.2.2.2.2.2.2.2.2.1)), (AV.v (.int .i64 y.2.2.2.2.2.2.2.2.2.2.2.2.2.2.2.1)), (AV.v (.int .i64 y.2.2.2.2.2.2.2.2.2.2.2.2.2.2.2.2))])] (F6_an 12).2.toks 0)
    | .inr y => (.exit 0, mkS 109 [(8, (AV.list 3 y.1 (some 1280000512))), (5, (AV.list 1 y.2.1 none)), (4, (AV.ptr 4 0)), (6, (AV.ptr 6 0)), (7, (AV.v (.int .i64 y.2.2.1)))] [(4, [(AV.v (.int .i64 y.2.2.2.1)), (AV.v (.int .i64 y.2.2.2.2.1)), (AV.v (.int .i64 y.2.2.2.2.2.1)), (AV.v (.int .i64 y.2.2.2.2.2.2.1))]), (6, [(AV.v (.int .i64 y.2.2.2.2.2.2.2.1)), (AV.v (.int .i64 y.2.2.2.2.2.2.2.2.1)), (AV.v (.int .i64 y.2.2.2.2.2.2.2.2.2.1)), (AV.v (.int .i64 y.2.2.2.2.2.2.2.2.2.2.1)), (AV.list 1 y.2.2.2.2.2.2.2.2.2.2.2.1 none), (AV.v (.int .i64 y.2.2.2.2.2.2.2.2.2.2.2.2.1)), (AV.v (.int .i64 y.2.2.2.2.2.2.2.2.2.2.2.2.2.1)), (AV.v (.int .i64 y.2.2.2.2.2.2.2.2.2.2.2.2.2.2.1)), (AV.v (.int .i64 y.2.2.2.2.2.2.2.2.2.2.2.2.2.2.2))])] (F6_an 12).2.toks 0)
  sp := fun y α k => match y with
    | .inl y => k (.ret, mkS 109 [(8, (AV.list 3 y.1 (some 1280000512))), (5, (AV.list 1 y.2.1 none)), (2, (AV.v (.bool y.2.2.1))), (4, (AV.ptr 4 0)), (6, (AV.ptr 6 0)), (7, (AV.v (.int .i64 y.2.2.2.1)))] [(4, [(AV.v (.int .i64 y.2.2.2.2.1)), (AV.v (.int .i64 y.2.2.2.2.2.1)), (AV.v (.int .i64 y.2.2.2.2.2.2.1)), (AV.v (.int .i64 y.2.2.2.2.2.2.2.1))]), (6, [(AV.v (.int .i64 y.2.2.2.2.2.2.2.2.1)), (AV.v (.int .i64 y.2.2.2.2.2.2.2.2.2.1)), (AV.v (.int .i64 y.2.2.2.2.2.2.2.2.2.2.1)), (AV.v (.int .i64 y.2.2.2.2.2.2.2.2.2.2.2.1)), (AV.list 1 y.2.2.2.2.2.2.2.2.2.2.2.2.1 none), (AV.v (.int .i64 y.2.2.2.2.2.2.2.2.2.2.2.2.2.1)), (AV.v (.int .i64 y.2.2.2.2.2.2.2.2.2.2.2.2.2.2.1)), (AV.v (.int .i64 y.2.2.2.2.2.2.2.2.2.2.2.2.2.2.2.1)), (AV.v (.int .i64 y.2.2.2.2.2.2.2.2.2.2.2.2.2.2.2.2))])] (F6_an 12).2.toks 0)
    | .inr y => k (.exit 0, mkS 109 [(8, (AV.list 3 y.1 (some 1280000512))), (5, (AV.list 1 y.2.1 none)), (4, (AV.ptr 4 0)), (6, (AV.ptr 6 0)), (7, (AV.v (.int .i64 y.2.2.1)))] [(4, [(AV.v (.int .i64 y.2.2.2.1)), (AV.v (.int .i64 y.2.2.2.2.1)), (AV.v (.int .i64 y.2.2.2.2.2.1)), (AV.v (.int .i64 y.2.2.2.2.2.2.1))]), (6, [(AV.v (.int .i64 y.2.2.2.2.2.2.2.1)), (AV.v (.int .i64 y.2.2.2.2.2.2.2.2.1)), (AV.v (.int .i64 y.2.2.2.2.2.2.2.2.2.1)), (AV.v (.int .i64 y.2.2.2.2.2.2.2.2.2.2.1)), (AV.list 1 y.2.2.2.2.2.2.2.2.2.2.2.1 none), (AV.v (.int .i64 y.2.2.2.2.2.2.2.2.2.2.2.2.1)), (AV.v (.int .i64 y.2.2.2.2.2.2.2.2.2.2.2.2.2.1)), (AV.v (.int .i64 y.2.2.2.2.2.2.2.2.2.2.2.2.2.2.1)), (AV.v (.int .i64 y.2.2.2.2.2.2.2.2.2.2.2.2.2.2.2))])] (F6_an 12).2.toks 0)
  spe := fun y α k => by rcases y with _ | _ <;> rfl
  b := fun x α kn ke => (match (decide (x.2.2.2.1 < (x.2.1.length : Int))) with | true => (match (x.2.2.1 == 0) with | true => (match F19_d N (9, x.2.2.2.2.2.2.2.2.2.2.2.2.2.2.2.2.2.1, x.2.2.2.2.2.2.2.2.2.2.2.2.2.2.2.2.2.2) with | some y10 => (if 0 ≤ x.2.2.2.1 ∧ x.2.2.2.1 ≤ (if (x.2.1.length : Int) < (i64 ((i64 (x.2.2.2.1 + 1)) + y10.1)) then (x.2.1.length : Int) else (i64 ((i64 (x.2.2.2.1 + 1)) + y10.1))) ∧ (if (x.2.1.length : Int) < (i64 ((i64 (x.2.2.2.1 + 1)) + y10.1)) then (x.2.1.length : Int) else (i64 ((i64 (x.2.2.2.1 + 1)) + y10.1))) ≤ x.2.1.length then (match F20_d N (x.2.2.2.2.2.2.2.2.1, x.2.2.2.2.2.2.2.2.2.1, x.2.2.2.2.2.2.2.2.2.2.1, x.2.2.2.2.2.2.2.2.2.2.2.1, x.2.2.2.2.2.2.2.2.2.2.2.2.1, x.2.2.2.2.2.2.2.2.2.2.2.2.2.1, x.2.2.2.2.2.2.2.2.2.2.2.2.2.2.1, x.2.2.2.2.2.2.2.2.2.2.2.2.2.2.2.1, x.2.2.2.2.2.2.2.2.2.2.2.2.2.2.2.2.1, ((x.2.1.take (if (x.2.1.length : Int) < (i64 ((i64 (x.2.2.2.1 + 1)) + y10.1)) then (x.2.1.length : Int) else (i64 ((i64 (x.2.2.2.1 + 1)) + y10.1))).toNat).drop x.2.2.2.1.toNat)) with | some y11 => (match (y11.2.2.2.2.2.2.2.2.2.2 != 0) with | true => (ke (.inl (x.1, x.2.1, false, x.2.2.1, x.2.2.2.2.1, x.2.2.2.2.2.1, x.2.2.2.2.2.2.1, x.2.2.2.2.2.2.2.1, x.2.2.2.2.2.2.2.2.1, x.2.2.2.2.2.2.2.2.2.1, x.2.2.2.2.2.2.2.2.2.2.1, x.2.2.2.2.2.2.2.2.2.2.2.1, x.2.2.2.2.2.2.2.2.2.2.2.2.1, x.2.2.2.2.2.2.2.2.2.2.2.2.2.1, x.2.2.2.2.2.2.2.2.2.2.2.2.2.2.1, x.2.2.2.2.2.2.2.2.2.2.2.2.2.2.2.1, x.2.2.2.2.2.2.2.2.2.2.2.2.2.2.2.2.1))) | false => (match F21_d N (y11.1, y11.2.1, y11.2.2.1, y11.2.2.2.1, y11.2.2.2.2.1, y11.2.2.2.2.2.1, y11.2.2.2.2.2.2.1, y11.2.2.2.2.2.2.2.1, y11.2.2.2.2.2.2.2.2.1) with | some y12 => (match (!y12) with | true => (ke (.inl (x.1, x.2.1, false, x.2.2.1, x.2.2.2.2.1, x.2.2.2.2.2.1, x.2.2.2.2.2.2.1, x.2.2.2.2.2.2.2.1, x.2.2.2.2.2.2.2.2.1, x.2.2.2.2.2.2.2.2.2.1, x.2.2.2.2.2.2.2.2.2.2.1, x.2.2.2.2.2.2.2.2.2.2.2.1, x.2.2.2.2.2.2.2.2.2.2.2.2.1, x.2.2.2.2.2.2.2.2.2.2.2.2.2.1, x.2.2.2.2.2.2.2.2.2.2.2.2.2.2.1, x.2.2.2.2.2.2.2.2.2.2.2.2.2.2.2.1, x.2.2.2.2.2.2.2.2.2.2.2.2.2.2.2.2.1))) | false => (if (x.1.length + y11.2.2.2.2.2.2.2.2.2.1.length) * 24 ≤ maxBytes then (kn ((x.1 ++ y11.2.2.2.2.2.2.2.2.2.1), x.2.1, x.2.2.1, (if (x.2.1.length : Int) < (i64 ((i64 (x.2.2.2.1 + 1)) + y10.1)) then (x.2.1.length : Int) else (i64 ((i64 (x.2.2.2.1 + 1)) + y10.1))), x.2.2.2.2.1, x.2.2.2.2.2.1, x.2.2.2.2.2.2.1, x.2.2.2.2.2.2.2.1, y11.1, y11.2.1, y11.2.2.1, y11.2.2.2.1, y11.2.2.2.2.1, y11.2.2.2.2.2.1, y11.2.2.2.2.2.2.1, y11.2.2.2.2.2.2.2.1, y11.2.2.2.2.2.2.2.2.1, y10.2.1, y10.2.2)) else none)) | none => none)) | none => none) else none) | none => none) | false => (ke (.inr (x.1, x.2.1, x.2.2.1, x.2.2.2.2.1, x.2.2.2.2.2.1, x.2.2.2.2.2.2.1, x.2.2.2.2.2.2.2.1, x.2.2.2.2.2.2.2.2.1, x.2.2.2.2.2.2.2.2.2.1, x.2.2.2.2.2.2.2.2.2.2.1, x.2.2.2.2.2.2.2.2.2.2.2.1, x.2.2.2.2.2.2.2.2.2.2.2.2.1, x.2.2.2.2.2.2.2.2.2.2.2.2.2.1, x.2.2.2.2.2.2.2.2.2.2.2.2.2.2.1, x.2.2.2.2.2.2.2.2.2.2.2.2.2.2.2.1, x.2.2.2.2.2.2.2.2.2.2.2.2.2.2.2.2.1)))) | false => (ke (.inr (x.1, x.2.1, x.2.2.1, x.2.2.2.2.1, x.2.2.2.2.2.1, x.2.2.2.2.2.2.1, x.2.2.2.2.2.2.2.1, x.2.2.2.2.2.2.2.2.1, x.2.2.2.2.2.2.2.2.2.1, x.2.2.2.2.2.2.2.2.2.2.1, x.2.2.2.2.2.2.2.2.2.2.2.1, x.2.2.2.2.2.2.2.2.2.2.2.2.1, x.2.2.2.2.2.2.2.2.2.2.2.2.2.1, x.2.2.2.2.2.2.2.2.2.2.2.2.2.2.1, x.2.2.2.2.2.2.2.2.2.2.2.2.2.2.2.1, x.2.2.2.2.2.2.2.2.2.2.2.2.2.2.2.2.1))))
noncomputable abbrev F6_d12 (N : Nat) (x : (List (List AV)) × (List (List AV)) × Int × Int × Int × Int × Int × Int × Int × Int × Int × Int × (List (List AV)) × Int × Int × Int × Int × (List (List AV)) × Int) : Option (((List (List AV)) × (List (List AV)) × Bool × Int × Int × Int × Int × Int × Int × Int × Int × Int × (List (List AV)) × Int × Int × Int × Int) ⊕ ((List (List AV)) × (List (List AV)) × Int × Int × Int × Int × Int × Int × Int × Int × Int × (List (List AV)) × Int × Int × Int × Int)) := (F6_l12 N).L N x
noncomputable def F6_s (N : Nat) : FSpec where
  X := (List (List AV))
  Y := Bool
  ash := [[some 1]]
  bsh := []
  S := ⟨[[none]], [], [], [], []⟩
  bm := false
  pat := fun a b => match a, b with
    | [(AV.list 1 a0 none)], [] => some a0
    | _, _ => none
  args := fun x => [(AV.list 1 x none)]
  bs := fun x => []
  ret := fun y => ⟨(AV.v (.bool y)), [], none, [], [], []⟩
  t := fun x α k => (match F8_d N x with | some y1 => (match (!y1) with | true => (match F9_d N () with | some y2 => (k y2) | none => none) | false => (match F10_d N x with | some y3 => (match F11_d N (y3.1, y3.2) with | some y4 => (match F12_d N (60, y4.2.2.2.2.1, y4.2.2.2.2.2) with | some y5 => (match F18_d N (y4.1, y4.2.1, y4.2.2.1, y4.2.2.2.1) with | some y6 => (match F6_d12 N (([] : List (List AV)), y5.1, y6.2.2.2.2.2.2.2.2.2, 0, y4.1, y4.2.1, y4.2.2.1, y4.2.2.2.1, y6.1, y6.2.1, y6.2.2.1, y6.2.2.2.1, y6.2.2.2.2.1, y6.2.2.2.2.2.1, y6.2.2.2.2.2.2.1, y6.2.2.2.2.2.2.2.1, y6.2.2.2.2.2.2.2.2.1, y5.2.1, y5.2.2) with | some y13 => (match y13 with | .inl z14 => (k z14.2.2.1) | .inr z15 => (match F22_d N (z15.2.2.2.2.2.2.2.1, z15.2.2.2.2.2.2.2.2.1, z15.2.2.2.2.2.2.2.2.2.1, z15.2.2.2.2.2.2.2.2.2.2.1, z15.2.2.2.2.2.2.2.2.2.2.2.1, z15.2.2.2.2.2.2.2.2.2.2.2.2.1, z15.2.2.2.2.2.2.2.2.2.2.2.2.2.1, z15.2.2.2.2.2.2.2.2.2.2.2.2.2.2.1, z15.2.2.2.2.2.2.2.2.2.2.2.2.2.2.2) with | some y16 => (match F13_d N (z15.2.2.2.1, z15.2.2.2.2.1, z15.2.2.2.2.2.1, z15.2.2.2.2.2.2.1, z15.2.1) with | some y17 => (match (z15.2.2.1 == 0) with | true => (match (y16.2 == 0) with | true => (match (y17.2 == 0) with | true => (match (z15.2.2.2.2.2.2.2.2.2.2.2.2.1 == (z15.2.1.length : Int)) with | true => (if (z15.1.length + y16.1.length) * 24 ≤ maxBytes then (match F15_d N ((z15.1 ++ y16.1), y17.1) with | some y18 => (match y18 with | true => (match F9_d N () with | some y19 => (k y19) | none => none) | false => (k false)) | none => none) else none) | false => (k false)) | false => (k false)) | false => (k false)) | false => (k false)) | none => none) | none => none)) | none => none) | none => none) | none => none) | none => none) | none => none)) | none => none)
noncomputable abbrev F6_d (N : Nat) (x : (List (List AV))) : Option (Bool) := (F6_s N).d x
theorem F6_par12 (N : Nat) : Par (F6_l12 N).b := by
  intro x α β kn ke kn' ke' r r' h h1 h2
  revert h
  dsimp only [F6_l12]
  (repeat' (first | (with_reducible refine par_ite ?_ ?_) | (with_reducible refine par_both ?_ ?_) | split)) <;> intro h <;> first | exact h1 _ h | exact h2 _ h | (cases h; done)
theorem F6_body12 (N : Nat) (x : (F6_l12 N).X) (α : Type) (kn : AS → Option α) (ke : Out → Option α) : around (tabOf Try.prog) (F6_g N) F6_an (lam N [(12, F6_l12 N)]) 12 (bodyOf (nthLoop 12 (Try.f6.body.getD .skip))) ((F6_l12 N).st x) kn ke = (F6_l12 N).b x α (fun x' => kn ((F6_l12 N).st x')) (fun y => (F6_l12 N).sp y α ke) := by kernel_rfl
theorem F6_pat12 (N : Nat) (s : AS) (x : (F6_l12 N).X) (hc : s = canon (F6_an 12).1 s) (h : (F6_l12 N).p s = some x) : s = (F6_l12 N).st x := by
  dsimp only [F6_l12] at h
  split at h
  · cases h
    exact canon_mk hc ‹_› ‹_› rfl rfl rfl ⟨‹_›, ‹_›, ‹_›, ‹_›, ‹_›, ‹_›, ‹_›, trivial⟩ ⟨‹_›, ‹_›, ‹_›, trivial⟩
  · cases h
theorem F6_loop12 (N : Nat) : ∀ s o, s = canon (F6_an 12).1 s → (lam N [(12, F6_l12 N)]).v 12 s = some o → LoopSem Try.prog (nthLoop 12 (Try.f6.body.getD .skip)) s o :=
  loop_ok (tabOf_ok Try.prog) (gam_ok _) mixed F6_an N [(12, F6_l12 N)] 12 (bodyOf (nthLoop 12 (Try.f6.body.getD .skip))) (nthLoop 12 (Try.f6.body.getD .skip)) (by kernel_rfl) (by
    have e : actOf F6_an (bodyOf (nthLoop 12 (Try.f6.body.getD .skip))) (12 + 1) = [] := by kernel_rfl
    rw [e]
    intro p hp
    cases hp) (F6_l12 N) rfl (fun s x hc h => F6_pat12 N s x hc h) (fun x => rfl) (fun x α kn ke => (F6_body12 N x α kn ke).trans (congrArg ((F6_l12 N).b x α _) (funext fun y => (F6_l12 N).spe y α ke))) (F6_par12 N)
theorem F6_parF (N : Nat) : ParF (F6_s N).t := by
  intro x α β k k' r r' h h1
  revert h
  dsimp only [F6_s]
  (repeat' (first | (with_reducible refine par_ite ?_ ?_) | (with_reducible refine par_both ?_ ?_) | split)) <;> intro h <;> first | exact h1 _ h | (cases h; done)
theorem F6_text (N : Nat) (x : (F6_s N).X) : acall (tabOf Try.prog) (F6_g N) F6_an (lam N [(12, F6_l12 N)]) Try.f6 (F6_s N).S ((F6_s N).args x) ((F6_s N).bs x) = (F6_s N).t x Ret (fun y => some ((F6_s N).ret y)) := by kernel_rfl
theorem F6_pat (N : Nat) (a : List AV) (b : List (List AV)) (x : (F6_s N).X) (h : (F6_s N).pat a b = some x) : a = (F6_s N).args x ∧ b = (F6_s N).bs x := by
  dsimp only [F6_s] at h
  split at h
  · cases h; exact ⟨rfl, rfl⟩
  · cases h
noncomputable def F6_e (N : Nat) : Ent Try.prog := entOf (tabOf_ok Try.prog) (gam_ok _) mixed 6 Try.f6 Try.func6 rfl F6_an (lam N [(12, F6_l12 N)]) (by
    have e : actOf F6_an (Try.f6.body.getD .skip) 0 = [(12, nthLoop 12 (Try.f6.body.getD .skip))] := by kernel_rfl
    rw [e]
    intro p hp
    rcases List.mem_cons.1 hp with rfl | hp
    · exact F6_loop12 N
    cases hp) (F6_s N) (fun _ => ⟨rfl, rfl⟩) (F6_text N) (F6_pat N) (F6_parF N)
end Go.Proofs.Ytaiadjadgpgnmaa
