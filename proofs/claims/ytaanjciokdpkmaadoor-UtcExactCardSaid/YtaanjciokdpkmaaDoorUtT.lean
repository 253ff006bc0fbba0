/- Functions without memory. (written by sx.py) -/
import Derived.Test.YtaanjciokdpkmaaDoorItoa
namespace Go.Proofs.YtaanjciokdpkmaaDoor
open Go.RowKit
set_option linter.unusedVariables false
set_option linter.unusedSimpArgs false
set_option linter.unnecessarySimpa false
set_option maxRecDepth 4000
/-! ### seismonet/utc.in (function 34) -/
def F34_an : Nat → Keep × Keep := anL []
noncomputable def F34_g (N : Nat) : GamK := gam (P := Tryd.prog) []
noncomputable def F34_s (N : Nat) : FSpec where
  X := Int × Int × Int
  Y := Bool
  ash := [[none], [none], [none]]
  bsh := []
  S := ⟨[[none]], [], [], [], []⟩
  bm := false
  pat := fun a b => match a, b with
    | [(AV.v (.int .i64 a0)), (AV.v (.int .i64 a1)), (AV.v (.int .i64 a2))], [] => some (a0, a1, a2)
    | _, _ => none
  args := fun x => [(AV.v (.int .i64 x.1)), (AV.v (.int .i64 x.2.1)), (AV.v (.int .i64 x.2.2))]
  bs := fun x => []
  ret := fun y => ⟨(AV.v (.bool y)), [], none, [], [], []⟩
  t := fun x α k => (match (decide (x.1 ≥ x.2.1)) with | true => (k (decide (x.1 ≤ x.2.2))) | false => (k false))
noncomputable abbrev F34_d (N : Nat) (x : Int × Int × Int) : Option (Bool) := (F34_s N).d x
theorem F34_parF (N : Nat) : ParF (F34_s N).t := by
  intro x α β k k' r r' h h1
  revert h
  dsimp only [F34_s]
  (repeat' (first | (with_reducible refine par_ite ?_ ?_) | (with_reducible refine par_both ?_ ?_) | split)) <;> intro h <;> first | exact h1 _ h | (cases h; done)
theorem F34_text (N : Nat) (x : (F34_s N).X) : acall (tabOf Tryd.prog) (F34_g N) F34_an (lam N []) Tryd.f34 (F34_s N).S ((F34_s N).args x) ((F34_s N).bs x) = (F34_s N).t x Ret (fun y => some ((F34_s N).ret y)) := by kernel_rfl
theorem F34_pat (N : Nat) (a : List AV) (b : List (List AV)) (x : (F34_s N).X) (h : (F34_s N).pat a b = some x) : a = (F34_s N).args x ∧ b = (F34_s N).bs x := by
  dsimp only [F34_s] at h
  split at h
  · cases h; exact ⟨rfl, rfl⟩
  · cases h
noncomputable def F34_e (N : Nat) : Ent Tryd.prog := entOf (tabOf_ok Tryd.prog) (gam_ok _) mixed 34 Tryd.f34 Tryd.func34 rfl F34_an (lam N []) (by
    have e : actOf F34_an (Tryd.f34.body.getD .skip) 0 = [] := by kernel_rfl
    rw [e]
    intro p hp
    cases hp) (F34_s N) (fun _ => ⟨rfl, rfl⟩) (F34_text N) (F34_pat N) (F34_parF N)
/-! ### seismonet/utc.leap (function 44) -/
def F44_an : Nat → Keep × Keep := anL []
noncomputable def F44_g (N : Nat) : GamK := gam (P := Tryd.prog) []
noncomputable def F44_s (N : Nat) : FSpec where
  X := Int
  Y := Bool
  ash := [[none]]
  bsh := []
  S := ⟨[[none]], [], [], [], []⟩
  bm := false
  pat := fun a b => match a, b with
    | [(AV.v (.int .i64 a0))], [] => some a0
    | _, _ => none
  args := fun x => [(AV.v (.int .i64 x))]
  bs := fun x => []
  ret := fun y => ⟨(AV.v (.bool y)), [], none, [], [], []⟩
  t := fun x α k => (match ((x.tmod 4) == 0) with | true => (match ((x.tmod 100) != 0) with | true => (k true) | false => (k ((x.tmod 400) == 0))) | false => (k false))
noncomputable abbrev F44_d (N : Nat) (x : Int) : Option (Bool) := (F44_s N).d x
theorem F44_parF (N : Nat) : ParF (F44_s N).t := by
  intro x α β k k' r r' h h1
  revert h
  dsimp only [F44_s]
  (repeat' (first | (with_reducible refine par_ite ?_ ?_) | (with_reducible refine par_both ?_ ?_) | split)) <;> intro h <;> first | exact h1 _ h | (cases h; done)
theorem F44_text (N : Nat) (x : (F44_s N).X) : acall (tabOf Tryd.prog) (F44_g N) F44_an (lam N []) Tryd.f44 (F44_s N).S ((F44_s N).args x) ((F44_s N).bs x) = (F44_s N).t x Ret (fun y => some ((F44_s N).ret y)) := by kernel_rfl
theorem F44_pat (N : Nat) (a : List AV) (b : List (List AV)) (x : (F44_s N).X) (h : (F44_s N).pat a b = some x) : a = (F44_s N).args x ∧ b = (F44_s N).bs x := by
  dsimp only [F44_s] at h
  split at h
  · cases h; exact ⟨rfl, rfl⟩
  · cases h
noncomputable def F44_e (N : Nat) : Ent Tryd.prog := entOf (tabOf_ok Tryd.prog) (gam_ok _) mixed 44 Tryd.f44 Tryd.func44 rfl F44_an (lam N []) (by
    have e : actOf F44_an (Tryd.f44.body.getD .skip) 0 = [] := by kernel_rfl
    rw [e]
    intro p hp
    cases hp) (F44_s N) (fun _ => ⟨rfl, rfl⟩) (F44_text N) (F44_pat N) (F44_parF N)
/-! ### seismonet/utc.length (function 35) -/
def F35_an : Nat → Keep × Keep := anL []
noncomputable def F35_g (N : Nat) : GamK := gam (P := Tryd.prog) [F44_e N]
noncomputable def F35_s (N : Nat) : FSpec where
  X := Int × Int
  Y := Int
  ash := [[none], [none]]
  bsh := []
  S := ⟨[[none]], [], [], [], []⟩
  bm := false
  pat := fun a b => match a, b with
    | [(AV.v (.int .i64 a0)), (AV.v (.int .i64 a1))], [] => some (a0, a1)
    | _, _ => none
  args := fun x => [(AV.v (.int .i64 x.1)), (AV.v (.int .i64 x.2))]
  bs := fun x => []
  ret := fun y => ⟨(AV.v (.int .i64 y)), [], none, [], [], []⟩
  t := fun x α k => (match (x.2 == 2) with | true => (match F44_d N x.1 with | some y1 => (match y1 with | true => (k 29) | false => (if 0 ≤ (i64 (x.2 - 1)) ∧ (i64 (x.2 - 1)) < 12 then (match [(AV.v (.int .i64 31)), (AV.v (.int .i64 28)), (AV.v (.int .i64 31)), (AV.v (.int .i64 30)), (AV.v (.int .i64 31)), (AV.v (.int .i64 30)), (AV.v (.int .i64 31)), (AV.v (.int .i64 31)), (AV.v (.int .i64 30)), (AV.v (.int .i64 31)), (AV.v (.int .i64 30)), (AV.v (.int .i64 31))][(0 + (i64 (x.2 - 1)).toNat * 1)]? with | some x2 => (match x2 with | .v (.int q4 n3) => (if q4 = .i64 then (k n3) else none) | _ => none) | none => none) else none)) | none => none) | false => (if 0 ≤ (i64 (x.2 - 1)) ∧ (i64 (x.2 - 1)) < 12 then (match [(AV.v (.int .i64 31)), (AV.v (.int .i64 28)), (AV.v (.int .i64 31)), (AV.v (.int .i64 30)), (AV.v (.int .i64 31)), (AV.v (.int .i64 30)), (AV.v (.int .i64 31)), (AV.v (.int .i64 31)), (AV.v (.int .i64 30)), (AV.v (.int .i64 31)), (AV.v (.int .i64 30)), (AV.v (.int .i64 31))][(0 + (i64 (x.2 - 1)).toNat * 1)]? with | some x5 => (match x5 with | .v (.int q7 n6) => (if q7 = .i64 then (k n6) else none) | _ => none) | none => none) else none))
noncomputable abbrev F35_d (N : Nat) (x : Int × Int) : Option (Int) := (F35_s N).d x
theorem F35_parF (N : Nat) : ParF (F35_s N).t := by
  intro x α β k k' r r' h h1
  revert h
  dsimp only [F35_s]
  (repeat' (first | (with_reducible refine par_ite ?_ ?_) | (with_reducible refine par_both ?_ ?_) | split)) <;> intro h <;> first | exact h1 _ h | (cases h; done)
theorem F35_text (N : Nat) (x : (F35_s N).X) : acall (tabOf Tryd.prog) (F35_g N) F35_an (lam N []) Tryd.f35 (F35_s N).S ((F35_s N).args x) ((F35_s N).bs x) = (F35_s N).t x Ret (fun y => some ((F35_s N).ret y)) := by kernel_rfl
theorem F35_pat (N : Nat) (a : List AV) (b : List (List AV)) (x : (F35_s N).X) (h : (F35_s N).pat a b = some x) : a = (F35_s N).args x ∧ b = (F35_s N).bs x := by
  dsimp only [F35_s] at h
  split at h
  · cases h; exact ⟨rfl, rfl⟩
  · cases h
noncomputable def F35_e (N : Nat) : Ent Tryd.prog := entOf (tabOf_ok Tryd.prog) (gam_ok _) mixed 35 Tryd.f35 Tryd.func35 rfl F35_an (lam N []) (by
    have e : actOf F35_an (Tryd.f35.body.getD .skip) 0 = [] := by kernel_rfl
    rw [e]
    intro p hp
    cases hp) (F35_s N) (fun _ => ⟨rfl, rfl⟩) (F35_text N) (F35_pat N) (F35_parF N)
/-! ### seismonet/utc.first (function 36) -/
def F36_an : Nat → Keep × Keep := anL []
noncomputable def F36_g (N : Nat) : GamK := gam (P := Tryd.prog) []
noncomputable def F36_s (N : Nat) : FSpec where
  X := Int
  Y := Int
  ash := [[none]]
  bsh := []
  S := ⟨[[none]], [], [], [], []⟩
  bm := false
  pat := fun a b => match a, b with
    | [(AV.v (.int .i64 a0))], [] => some a0
    | _, _ => none
  args := fun x => [(AV.v (.int .i64 x))]
  bs := fun x => []
  ret := fun y => ⟨(AV.v (.int .i64 y)), [], none, [], [], []⟩
  t := fun x α k => (k (i64 ((i64 ((i64 ((i64 ((i64 (365 * (i64 (x - 1970)))) + (i64 ((i64 (x - 1)).tdiv 4)))) - (i64 ((i64 (x - 1)).tdiv 100)))) + (i64 ((i64 (x - 1)).tdiv 400)))) - 477)))
noncomputable abbrev F36_d (N : Nat) (x : Int) : Option (Int) := (F36_s N).d x
theorem F36_parF (N : Nat) : ParF (F36_s N).t := by
  intro x α β k k' r r' h h1
  revert h
  dsimp only [F36_s]
  (repeat' (first | (with_reducible refine par_ite ?_ ?_) | (with_reducible refine par_both ?_ ?_) | split)) <;> intro h <;> first | exact h1 _ h | (cases h; done)
theorem F36_text (N : Nat) (x : (F36_s N).X) : acall (tabOf Tryd.prog) (F36_g N) F36_an (lam N []) Tryd.f36 (F36_s N).S ((F36_s N).args x) ((F36_s N).bs x) = (F36_s N).t x Ret (fun y => some ((F36_s N).ret y)) := by kernel_rfl
theorem F36_pat (N : Nat) (a : List AV) (b : List (List AV)) (x : (F36_s N).X) (h : (F36_s N).pat a b = some x) : a = (F36_s N).args x ∧ b = (F36_s N).bs x := by
  dsimp only [F36_s] at h
  split at h
  · cases h; exact ⟨rfl, rfl⟩
  · cases h
noncomputable def F36_e (N : Nat) : Ent Tryd.prog := entOf (tabOf_ok Tryd.prog) (gam_ok _) mixed 36 Tryd.f36 Tryd.func36 rfl F36_an (lam N []) (by
    have e : actOf F36_an (Tryd.f36.body.getD .skip) 0 = [] := by kernel_rfl
    rw [e]
    intro p hp
    cases hp) (F36_s N) (fun _ => ⟨rfl, rfl⟩) (F36_text N) (F36_pat N) (F36_parF N)
/-! ### seismonet/seismonetref01.leap (function 38) -/
def F38_an : Nat → Keep × Keep := anL []
noncomputable def F38_g (N : Nat) : GamK := gam (P := Tryd.prog) []
noncomputable def F38_s (N : Nat) : FSpec where
  X := Int
  Y := Bool
  ash := [[none]]
  bsh := []
  S := ⟨[[none]], [], [], [], []⟩
  bm := false
  pat := fun a b => match a, b with
    | [(AV.v (.int .i64 a0))], [] => some a0
    | _, _ => none
  args := fun x => [(AV.v (.int .i64 x))]
  bs := fun x => []
  ret := fun y => ⟨(AV.v (.bool y)), [], none, [], [], []⟩
  t := fun x α k => (match ((x.tmod 4) == 0) with | true => (match ((x.tmod 100) != 0) with | true => (k true) | false => (k ((x.tmod 400) == 0))) | false => (k ((x.tmod 400) == 0)))
noncomputable abbrev F38_d (N : Nat) (x : Int) : Option (Bool) := (F38_s N).d x
theorem F38_parF (N : Nat) : ParF (F38_s N).t := by
  intro x α β k k' r r' h h1
  revert h
  dsimp only [F38_s]
  (repeat' (first | (with_reducible refine par_ite ?_ ?_) | (with_reducible refine par_both ?_ ?_) | split)) <;> intro h <;> first | exact h1 _ h | (cases h; done)
theorem F38_text (N : Nat) (x : (F38_s N).X) : acall (tabOf Tryd.prog) (F38_g N) F38_an (lam N []) Tryd.f38 (F38_s N).S ((F38_s N).args x) ((F38_s N).bs x) = (F38_s N).t x Ret (fun y => some ((F38_s N).ret y)) := by kernel_rfl
theorem F38_pat (N : Nat) (a : List AV) (b : List (List AV)) (x : (F38_s N).X) (h : (F38_s N).pat a b = some x) : a = (F38_s N).args x ∧ b = (F38_s N).bs x := by
  dsimp only [F38_s] at h
  split at h
  · cases h; exact ⟨rfl, rfl⟩
  · cases h
noncomputable def F38_e (N : Nat) : Ent Tryd.prog := entOf (tabOf_ok Tryd.prog) (gam_ok _) mixed 38 Tryd.f38 Tryd.func38 rfl F38_an (lam N []) (by
    have e : actOf F38_an (Tryd.f38.body.getD .skip) 0 = [] := by kernel_rfl
    rw [e]
    intro p hp
    cases hp) (F38_s N) (fun _ => ⟨rfl, rfl⟩) (F38_text N) (F38_pat N) (F38_parF N)
/-! ### seismonet/seismonetref01.length (function 37) -/
def F37_an : Nat → Keep × Keep := anL []
noncomputable def F37_g (N : Nat) : GamK := gam (P := Tryd.prog) [F38_e N]
noncomputable def F37_s (N : Nat) : FSpec where
  X := Int × Int
  Y := Int
  ash := [[none], [none]]
  bsh := []
  S := ⟨[[none]], [], [], [], []⟩
  bm := false
  pat := fun a b => match a, b with
    | [(AV.v (.int .i64 a0)), (AV.v (.int .i64 a1))], [] => some (a0, a1)
    | _, _ => none
  args := fun x => [(AV.v (.int .i64 x.1)), (AV.v (.int .i64 x.2))]
  bs := fun x => []
  ret := fun y => ⟨(AV.v (.int .i64 y)), [], none, [], [], []⟩
  t := fun x α k => (match (x.2 == 2) with | true => (match F38_d N x.1 with | some y1 => (match y1 with | true => (k 29) | false => (k 28)) | none => none) | false => (match (x.2 == 4) with | true => (k 30) | false => (match (x.2 == 6) with | true => (k 30) | false => (match (x.2 == 9) with | true => (k 30) | false => (match (x.2 == 11) with | true => (k 30) | false => (k 31))))))
noncomputable abbrev F37_d (N : Nat) (x : Int × Int) : Option (Int) := (F37_s N).d x
theorem F37_parF (N : Nat) : ParF (F37_s N).t := by
  intro x α β k k' r r' h h1
  revert h
  dsimp only [F37_s]
  (repeat' (first | (with_reducible refine par_ite ?_ ?_) | (with_reducible refine par_both ?_ ?_) | split)) <;> intro h <;> first | exact h1 _ h | (cases h; done)
theorem F37_text (N : Nat) (x : (F37_s N).X) : acall (tabOf Tryd.prog) (F37_g N) F37_an (lam N []) Tryd.f37 (F37_s N).S ((F37_s N).args x) ((F37_s N).bs x) = (F37_s N).t x Ret (fun y => some ((F37_s N).ret y)) := by kernel_rfl
theorem F37_pat (N : Nat) (a : List AV) (b : List (List AV)) (x : (F37_s N).X) (h : (F37_s N).pat a b = some x) : a = (F37_s N).args x ∧ b = (F37_s N).bs x := by
  dsimp only [F37_s] at h
  split at h
  · cases h; exact ⟨rfl, rfl⟩
  · cases h
noncomputable def F37_e (N : Nat) : Ent Tryd.prog := entOf (tabOf_ok Tryd.prog) (gam_ok _) mixed 37 Tryd.f37 Tryd.func37 rfl F37_an (lam N []) (by
    have e : actOf F37_an (Tryd.f37.body.getD .skip) 0 = [] := by kernel_rfl
    rw [e]
    intro p hp
    cases hp) (F37_s N) (fun _ => ⟨rfl, rfl⟩) (F37_text N) (F37_pat N) (F37_parF N)
/-! ### seismonet/utc.digits (function 39) -/
def F39_an : Nat → Keep × Keep := anL [(4, ⟨[1, 5], [], [], [], [], [], [], [], false⟩, ⟨[5], [], [], [], [], [], [], [], false⟩)]
noncomputable def F39_g (N : Nat) : GamK := gam (P := Tryd.prog) [F45_e N]
noncomputable def F39_l4 (N : Nat) : LSpec where
  X := Int × ByteArray
  Y := (ByteArray)
  p := fun s => match s.env.length, s.nin, s.at 1, s.at 5 with
    | 15, 0, (AV.v (.int .i64 a0)), (AV.v (.string a1)) => some (a0, a1)
    | _, _, _, _ => none
  st := fun x => mkS 15 [(1, (AV.v (.int .i64 x.1))), (5, (AV.v (.string x.2)))] [] (F39_an 4).1.toks 0
  out := fun y => (.exit 0, mkS 15 [(5, (AV.v (.string y)))] [] (F39_an 4).2.toks 0)
  sp := fun y α k => k (.exit 0, mkS 15 [(5, (AV.v (.string y)))] [] (F39_an 4).2.toks 0)
  spe := fun y α k => rfl
  b := fun x α kn ke => (match (decide ((x.2.size : Int) < x.1)) with | true => (if (⟨#[48]⟩ : ByteArray).size + x.2.size ≤ 9223372036854775807 then (kn (x.1, ((⟨#[48]⟩ : ByteArray) ++ x.2))) else none) | false => (ke x.2))
noncomputable abbrev F39_d4 (N : Nat) (x : Int × ByteArray) : Option ((ByteArray)) := (F39_l4 N).L N x
noncomputable def F39_s (N : Nat) : FSpec where
  X := Int × Int
  Y := ByteArray
  ash := [[none], [none]]
  bsh := []
  S := ⟨[[none]], [], [], [], []⟩
  bm := false
  pat := fun a b => match a, b with
    | [(AV.v (.int .i64 a0)), (AV.v (.int .i64 a1))], [] => some (a0, a1)
    | _, _ => none
  args := fun x => [(AV.v (.int .i64 x.1)), (AV.v (.int .i64 x.2))]
  bs := fun x => []
  ret := fun y => ⟨(AV.v (.string y)), [], none, [], [], []⟩
  t := fun x α k => (match F45_d N x.1 with | some y1 => (match F39_d4 N (x.2, y1) with | some y2 => (k y2) | none => none) | none => none)
noncomputable abbrev F39_d (N : Nat) (x : Int × Int) : Option (ByteArray) := (F39_s N).d x
theorem F39_par4 (N : Nat) : Par (F39_l4 N).b := by
  intro x α β kn ke kn' ke' r r' h h1 h2
  revert h
  dsimp only [F39_l4]
  (repeat' (first | (with_reducible refine par_ite ?_ ?_) | (with_reducible refine par_both ?_ ?_) | split)) <;> intro h <;> first | exact h1 _ h | exact h2 _ h | (cases h; done)
theorem F39_body4 (N : Nat) (x : (F39_l4 N).X) (α : Type) (kn : AS → Option α) (ke : Out → Option α) : around (tabOf Tryd.prog) (F39_g N) F39_an (lam N [(4, F39_l4 N)]) 4 (bodyOf (nthLoop 4 (Tryd.f39.body.getD .skip))) ((F39_l4 N).st x) kn ke = (F39_l4 N).b x α (fun x' => kn ((F39_l4 N).st x')) (fun y => (F39_l4 N).sp y α ke) := by kernel_rfl
theorem F39_pat4 (N : Nat) (s : AS) (x : (F39_l4 N).X) (hc : s = canon (F39_an 4).1 s) (h : (F39_l4 N).p s = some x) : s = (F39_l4 N).st x := by
  dsimp only [F39_l4] at h
  split at h
  · cases h
    exact canon_mk hc ‹_› ‹_› rfl rfl rfl ⟨‹_›, ‹_›, trivial⟩ trivial
  · cases h
theorem F39_loop4 (N : Nat) : ∀ s o, s = canon (F39_an 4).1 s → (lam N [(4, F39_l4 N)]).v 4 s = some o → LoopSem Tryd.prog (nthLoop 4 (Tryd.f39.body.getD .skip)) s o :=
  loop_ok (tabOf_ok Tryd.prog) (gam_ok _) mixed F39_an N [(4, F39_l4 N)] 4 (bodyOf (nthLoop 4 (Tryd.f39.body.getD .skip))) (nthLoop 4 (Tryd.f39.body.getD .skip)) (by kernel_rfl) (by
    have e : actOf F39_an (bodyOf (nthLoop 4 (Tryd.f39.body.getD .skip))) (4 + 1) = [] := by kernel_rfl
    rw [e]
    intro p hp
    cases hp) (F39_l4 N) rfl (fun s x hc h => F39_pat4 N s x hc h) (fun x => rfl) (fun x α kn ke => (F39_body4 N x α kn ke).trans (congrArg ((F39_l4 N).b x α _) (funext fun y => (F39_l4 N).spe y α ke))) (F39_par4 N)
theorem F39_parF (N : Nat) : ParF (F39_s N).t := by
  intro x α β k k' r r' h h1
  revert h
  dsimp only [F39_s]
  (repeat' (first | (with_reducible refine par_ite ?_ ?_) | (with_reducible refine par_both ?_ ?_) | split)) <;> intro h <;> first | exact h1 _ h | (cases h; done)
theorem F39_text (N : Nat) (x : (F39_s N).X) : acall (tabOf Tryd.prog) (F39_g N) F39_an (lam N [(4, F39_l4 N)]) Tryd.f39 (F39_s N).S ((F39_s N).args x) ((F39_s N).bs x) = (F39_s N).t x Ret (fun y => some ((F39_s N).ret y)) := by kernel_rfl
theorem F39_pat (N : Nat) (a : List AV) (b : List (List AV)) (x : (F39_s N).X) (h : (F39_s N).pat a b = some x) : a = (F39_s N).args x ∧ b = (F39_s N).bs x := by
  dsimp only [F39_s] at h
  split at h
  · cases h; exact ⟨rfl, rfl⟩
  · cases h
noncomputable def F39_e (N : Nat) : Ent Tryd.prog := entOf (tabOf_ok Tryd.prog) (gam_ok _) mixed 39 Tryd.f39 Tryd.func39 rfl F39_an (lam N [(4, F39_l4 N)]) (by
    have e : actOf F39_an (Tryd.f39.body.getD .skip) 0 = [(4, nthLoop 4 (Tryd.f39.body.getD .skip))] := by kernel_rfl
    rw [e]
    intro p hp
    rcases List.mem_cons.1 hp with rfl | hp
    · exact F39_loop4 N
    cases hp) (F39_s N) (fun _ => ⟨rfl, rfl⟩) (F39_text N) (F39_pat N) (F39_parF N)
/-! ### seismonet/utc.Valid (function 26) -/
def F26_an : Nat → Keep × Keep := anL [(4, ⟨[6, 7], [], [], [(0, 1), (5, 1)], [], [], [], [], false⟩, ⟨[2], [], [], [(0, 1)], [], [], [], [], false⟩)]
noncomputable def F26_g (N : Nat) : GamK := gam (P := Tryd.prog) [F34_e N]
noncomputable def F26_l4 (N : Nat) : LSpec where
  X := (List (List AV)) × (List (List AV)) × Int × Int
  Y := ((List (List AV)) × Bool) ⊕ ((List (List AV)))
  p := fun s => match s.env.length, s.nin, s.at 0, s.at 5, s.at 6, s.at 7 with
    | 44, 0, (AV.list 1 a0 none), (AV.list 1 a1 none), (AV.v (.int .i64 a2)), (AV.v (.int .i64 a3)) => some (a0, a1, a2, a3)
    | _, _, _, _, _, _ => none
  st := fun x => mkS 44 [(0, (AV.list 1 x.1 none)), (5, (AV.list 1 x.2.1 none)), (6, (AV.v (.int .i64 x.2.2.1))), (7, (AV.v (.int .i64 x.2.2.2)))] [] (F26_an 4).1.toks 0
  out := fun y => match y with
    | .inl y => (.ret, mkS 44 [(0, (AV.list 1 y.1 none)), (2, (AV.v (.bool y.2)))] [] (F26_an 4).2.toks 0)
    | .inr y => (.exit 0, mkS 44 [(0, (AV.list 1 y none))] [] (F26_an 4).2.toks 0)
  sp := fun y α k => match y with
    | .inl y => k (.ret, mkS 44 [(0, (AV.list 1 y.1 none)), (2, (AV.v (.bool y.2)))] [] (F26_an 4).2.toks 0)
    | .inr y => k (.exit 0, mkS 44 [(0, (AV.list 1 y none))] [] (F26_an 4).2.toks 0)
  spe := fun y α k => by rcases y with _ | _ <;> rfl
  b := fun x α kn ke => (match (decide (x.2.2.2 < x.2.2.1)) with | true => (if 0 ≤ x.2.2.2 then (match x.2.1[x.2.2.2.toNat]? with | some c1 => (match c1[0]? with | some x2 => (match x2 with | .v (.int q4 n3) => (if q4 = .i64 then (match F34_d N (n3, 1, 9007199254) with | some y5 => (match (!y5) with | true => (ke (.inl (x.1, false))) | false => (match (((i64 (n3 - x.2.2.2)).tmod 86400) != 0) with | true => (ke (.inl (x.1, false))) | false => (match (decide (x.2.2.2 > 0)) with | true => (if 0 ≤ (i64 (x.2.2.2 - 1)) then (match x.1[(i64 (x.2.2.2 - 1)).toNat]? with | some c6 => (match c6[0]? with | some x7 => (match x7 with | .v (.int q9 n8) => (if q9 = .i64 then (match (decide ((i64 (n3 - x.2.2.2)) ≤ (i64 (n8 - (i64 (x.2.2.2 - 1)))))) with | true => (ke (.inl (x.1, false))) | false => (kn (x.1, x.2.1, x.2.2.1, (i64 (x.2.2.2 + 1))))) else none) | _ => none) | none => none) | none => none) else none) | false => (kn (x.1, x.2.1, x.2.2.1, (i64 (x.2.2.2 + 1))))))) | none => none) else none) | _ => none) | none => none) | none => none) else none) | false => (ke (.inr x.1)))
noncomputable abbrev F26_d4 (N : Nat) (x : (List (List AV)) × (List (List AV)) × Int × Int) : Option (((List (List AV)) × Bool) ⊕ ((List (List AV)))) := (F26_l4 N).L N x
noncomputable def F26_s (N : Nat) : FSpec where
  X := (List (List AV))
  Y := Bool
  ash := [[some 1]]
  bsh := []
  S := ⟨[[none]], [], [], [], []⟩
  bm := false
  pat := fun a b => match a, b with
    | [(AV.list 1 a0 none)], [] => some a0
    | _, _ => none
  args := fun x => [(AV.list 1 x none)]
  bs := fun x => []
  ret := fun y => ⟨(AV.v (.bool y)), [], none, [], [], []⟩
  t := fun x α k => (match F26_d4 N (x, x, (x.length : Int), 0) with | some y10 => (match y10 with | .inl z11 => (k z11.2) | .inr z12 => (k (decide ((z12.length : Int) ≤ 64)))) | none => none)
noncomputable abbrev F26_d (N : Nat) (x : (List (List AV))) : Option (Bool) := (F26_s N).d x
theorem F26_par4 (N : Nat) : Par (F26_l4 N).b := by
  intro x α β kn ke kn' ke' r r' h h1 h2
  revert h
  dsimp only [F26_l4]
  (repeat' (first | (with_reducible refine par_ite ?_ ?_) | (with_reducible refine par_both ?_ ?_) | split)) <;> intro h <;> first | exact h1 _ h | exact h2 _ h | (cases h; done)
theorem F26_body4 (N : Nat) (x : (F26_l4 N).X) (α : Type) (kn : AS → Option α) (ke : Out → Option α) : around (tabOf Tryd.prog) (F26_g N) F26_an (lam N [(4, F26_l4 N)]) 4 (bodyOf (nthLoop 4 (Tryd.f26.body.getD .skip))) ((F26_l4 N).st x) kn ke = (F26_l4 N).b x α (fun x' => kn ((F26_l4 N).st x')) (fun y => (F26_l4 N).sp y α ke) := by kernel_rfl
theorem F26_pat4 (N : Nat) (s : AS) (x : (F26_l4 N).X) (hc : s = canon (F26_an 4).1 s) (h : (F26_l4 N).p s = some x) : s = (F26_l4 N).st x := by
  dsimp only [F26_l4] at h
  split at h
  · cases h
    exact canon_mk hc ‹_› ‹_› rfl rfl rfl ⟨‹_›, ‹_›, ‹_›, ‹_›, trivial⟩ trivial
  · cases h
theorem F26_loop4 (N : Nat) : ∀ s o, s = canon (F26_an 4).1 s → (lam N [(4, F26_l4 N)]).v 4 s = some o → LoopSem Tryd.prog (nthLoop 4 (Tryd.f26.body.getD .skip)) s o :=
  loop_ok (tabOf_ok Tryd.prog) (gam_ok _) mixed F26_an N [(4, F26_l4 N)] 4 (bodyOf (nthLoop 4 (Tryd.f26.body.getD .skip))) (nthLoop 4 (Tryd.f26.body.getD .skip)) (by kernel_rfl) (by
    have e : actOf F26_an (bodyOf (nthLoop 4 (Tryd.f26.body.getD .skip))) (4 + 1) = [] := by kernel_rfl
    rw [e]
    intro p hp
    cases hp) (F26_l4 N) rfl (fun s x hc h => F26_pat4 N s x hc h) (fun x => rfl) (fun x α kn ke => (F26_body4 N x α kn ke).trans (congrArg ((F26_l4 N).b x α _) (funext fun y => (F26_l4 N).spe y α ke))) (F26_par4 N)
theorem F26_parF (N : Nat) : ParF (F26_s N).t := by
  intro x α β k k' r r' h h1
  revert h
  dsimp only [F26_s]
  (repeat' (first | (with_reducible refine par_ite ?_ ?_) | (with_reducible refine par_both ?_ ?_) | split)) <;> intro h <;> first | exact h1 _ h | (cases h; done)
theorem F26_text (N : Nat) (x : (F26_s N).X) : acall (tabOf Tryd.prog) (F26_g N) F26_an (lam N [(4, F26_l4 N)]) Tryd.f26 (F26_s N).S ((F26_s N).args x) ((F26_s N).bs x) = (F26_s N).t x Ret (fun y => some ((F26_s N).ret y)) := by kernel_rfl
theorem F26_pat (N : Nat) (a : List AV) (b : List (List AV)) (x : (F26_s N).X) (h : (F26_s N).pat a b = some x) : a = (F26_s N).args x ∧ b = (F26_s N).bs x := by
  dsimp only [F26_s] at h
  split at h
  · cases h; exact ⟨rfl, rfl⟩
  · cases h
noncomputable def F26_e (N : Nat) : Ent Tryd.prog := entOf (tabOf_ok Tryd.prog) (gam_ok _) mixed 26 Tryd.f26 Tryd.func26 rfl F26_an (lam N [(4, F26_l4 N)]) (by
    have e : actOf F26_an (Tryd.f26.body.getD .skip) 0 = [(4, nthLoop 4 (Tryd.f26.body.getD .skip))] := by kernel_rfl
    rw [e]
    intro p hp
    rcases List.mem_cons.1 hp with rfl | hp
    · exact F26_loop4 N
    cases hp) (F26_s N) (fun _ => ⟨rfl, rfl⟩) (F26_text N) (F26_pat N) (F26_parF N)
/-! ### seismonet/utc.time (function 40) -/
def F40_an : Nat → Keep × Keep := anL []
noncomputable def F40_g (N : Nat) : GamK := gam (P := Tryd.prog) [F34_e N]
noncomputable def F40_s (N : Nat) : FSpec where
  X := Int
  Y := Bool
  ash := [[none]]
  bsh := []
  S := ⟨[[none]], [], [], [], []⟩
  bm := false
  pat := fun a b => match a, b with
    | [(AV.v (.int .i64 a0))], [] => some a0
    | _, _ => none
  args := fun x => [(AV.v (.int .i64 x))]
  bs := fun x => []
  ret := fun y => ⟨(AV.v (.bool y)), [], none, [], [], []⟩
  t := fun x α k => (match F34_d N (x, 0, 9007199254740992) with | some y1 => (k y1) | none => none)
noncomputable abbrev F40_d (N : Nat) (x : Int) : Option (Bool) := (F40_s N).d x
theorem F40_parF (N : Nat) : ParF (F40_s N).t := by
  intro x α β k k' r r' h h1
  revert h
  dsimp only [F40_s]
  (repeat' (first | (with_reducible refine par_ite ?_ ?_) | (with_reducible refine par_both ?_ ?_) | split)) <;> intro h <;> first | exact h1 _ h | (cases h; done)
theorem F40_text (N : Nat) (x : (F40_s N).X) : acall (tabOf Tryd.prog) (F40_g N) F40_an (lam N []) Tryd.f40 (F40_s N).S ((F40_s N).args x) ((F40_s N).bs x) = (F40_s N).t x Ret (fun y => some ((F40_s N).ret y)) := by kernel_rfl
theorem F40_pat (N : Nat) (a : List AV) (b : List (List AV)) (x : (F40_s N).X) (h : (F40_s N).pat a b = some x) : a = (F40_s N).args x ∧ b = (F40_s N).bs x := by
  dsimp only [F40_s] at h
  split at h
  · cases h; exact ⟨rfl, rfl⟩
  · cases h
noncomputable def F40_e (N : Nat) : Ent Tryd.prog := entOf (tabOf_ok Tryd.prog) (gam_ok _) mixed 40 Tryd.f40 Tryd.func40 rfl F40_an (lam N []) (by
    have e : actOf F40_an (Tryd.f40.body.getD .skip) 0 = [] := by kernel_rfl
    rw [e]
    intro p hp
    cases hp) (F40_s N) (fun _ => ⟨rfl, rfl⟩) (F40_text N) (F40_pat N) (F40_parF N)
/-! ### cmp.isNaN[int] (function 49) -/
def F49_an : Nat → Keep × Keep := anL []
noncomputable def F49_g (N : Nat) : GamK := gam (P := Tryd.prog) []
noncomputable def F49_s (N : Nat) : FSpec where
  X := Int
  Y := Bool
  ash := [[none]]
  bsh := []
  S := ⟨[[none]], [], [], [], []⟩
  bm := false
  pat := fun a b => match a, b with
    | [(AV.v (.int .i64 a0))], [] => some a0
    | _, _ => none
  args := fun x => [(AV.v (.int .i64 x))]
  bs := fun x => []
  ret := fun y => ⟨(AV.v (.bool y)), [], none, [], [], []⟩
  t := fun x α k => (k (x != x))
noncomputable abbrev F49_d (N : Nat) (x : Int) : Option (Bool) := (F49_s N).d x
theorem F49_parF (N : Nat) : ParF (F49_s N).t := by
  intro x α β k k' r r' h h1
  revert h
  dsimp only [F49_s]
  (repeat' (first | (with_reducible refine par_ite ?_ ?_) | (with_reducible refine par_both ?_ ?_) | split)) <;> intro h <;> first | exact h1 _ h | (cases h; done)
theorem F49_text (N : Nat) (x : (F49_s N).X) : acall (tabOf Tryd.prog) (F49_g N) F49_an (lam N []) Tryd.f49 (F49_s N).S ((F49_s N).args x) ((F49_s N).bs x) = (F49_s N).t x Ret (fun y => some ((F49_s N).ret y)) := by kernel_rfl
theorem F49_pat (N : Nat) (a : List AV) (b : List (List AV)) (x : (F49_s N).X) (h : (F49_s N).pat a b = some x) : a = (F49_s N).args x ∧ b = (F49_s N).bs x := by
  dsimp only [F49_s] at h
  split at h
  · cases h; exact ⟨rfl, rfl⟩
  · cases h
noncomputable def F49_e (N : Nat) : Ent Tryd.prog := entOf (tabOf_ok Tryd.prog) (gam_ok _) mixed 49 Tryd.f49 Tryd.func49 rfl F49_an (lam N []) (by
    have e : actOf F49_an (Tryd.f49.body.getD .skip) 0 = [] := by kernel_rfl
    rw [e]
    intro p hp
    cases hp) (F49_s N) (fun _ => ⟨rfl, rfl⟩) (F49_text N) (F49_pat N) (F49_parF N)
/-! ### cmp.Less[int] (function 46) -/
def F46_an : Nat → Keep × Keep := anL []
noncomputable def F46_g (N : Nat) : GamK := gam (P := Tryd.prog) [F49_e N]
noncomputable def F46_s (N : Nat) : FSpec where
  X := Int × Int
  Y := Bool
  ash := [[none], [none]]
  bsh := []
  S := ⟨[[none]], [], [], [], []⟩
  bm := false
  pat := fun a b => match a, b with
    | [(AV.v (.int .i64 a0)), (AV.v (.int .i64 a1))], [] => some (a0, a1)
    | _, _ => none
  args := fun x => [(AV.v (.int .i64 x.1)), (AV.v (.int .i64 x.2))]
  bs := fun x => []
  ret := fun y => ⟨(AV.v (.bool y)), [], none, [], [], []⟩
  t := fun x α k => (match F49_d N x.1 with | some y1 => (match y1 with | true => (match F49_d N x.2 with | some y2 => (match (!y2) with | true => (k true) | false => (k (decide (x.1 < x.2)))) | none => none) | false => (k (decide (x.1 < x.2)))) | none => none)
noncomputable abbrev F46_d (N : Nat) (x : Int × Int) : Option (Bool) := (F46_s N).d x
theorem F46_parF (N : Nat) : ParF (F46_s N).t := by
  intro x α β k k' r r' h h1
  revert h
  dsimp only [F46_s]
  (repeat' (first | (with_reducible refine par_ite ?_ ?_) | (with_reducible refine par_both ?_ ?_) | split)) <;> intro h <;> first | exact h1 _ h | (cases h; done)
theorem F46_text (N : Nat) (x : (F46_s N).X) : acall (tabOf Tryd.prog) (F46_g N) F46_an (lam N []) Tryd.f46 (F46_s N).S ((F46_s N).args x) ((F46_s N).bs x) = (F46_s N).t x Ret (fun y => some ((F46_s N).ret y)) := by kernel_rfl
theorem F46_pat (N : Nat) (a : List AV) (b : List (List AV)) (x : (F46_s N).X) (h : (F46_s N).pat a b = some x) : a = (F46_s N).args x ∧ b = (F46_s N).bs x := by
  dsimp only [F46_s] at h
  split at h
  · cases h; exact ⟨rfl, rfl⟩
  · cases h
noncomputable def F46_e (N : Nat) : Ent Tryd.prog := entOf (tabOf_ok Tryd.prog) (gam_ok _) mixed 46 Tryd.f46 Tryd.func46 rfl F46_an (lam N []) (by
    have e : actOf F46_an (Tryd.f46.body.getD .skip) 0 = [] := by kernel_rfl
    rw [e]
    intro p hp
    cases hp) (F46_s N) (fun _ => ⟨rfl, rfl⟩) (F46_text N) (F46_pat N) (F46_parF N)
/-! ### slices.isNaN[int] (function 47) -/
def F47_an : Nat → Keep × Keep := anL []
noncomputable def F47_g (N : Nat) : GamK := gam (P := Tryd.prog) []
noncomputable def F47_s (N : Nat) : FSpec where
  X := Int
  Y := Bool
  ash := [[none]]
  bsh := []
  S := ⟨[[none]], [], [], [], []⟩
  bm := false
  pat := fun a b => match a, b with
    | [(AV.v (.int .i64 a0))], [] => some a0
    | _, _ => none
  args := fun x => [(AV.v (.int .i64 x))]
  bs := fun x => []
  ret := fun y => ⟨(AV.v (.bool y)), [], none, [], [], []⟩
  t := fun x α k => (k (x != x))
noncomputable abbrev F47_d (N : Nat) (x : Int) : Option (Bool) := (F47_s N).d x
theorem F47_parF (N : Nat) : ParF (F47_s N).t := by
  intro x α β k k' r r' h h1
  revert h
  dsimp only [F47_s]
  (repeat' (first | (with_reducible refine par_ite ?_ ?_) | (with_reducible refine par_both ?_ ?_) | split)) <;> intro h <;> first | exact h1 _ h | (cases h; done)
theorem F47_text (N : Nat) (x : (F47_s N).X) : acall (tabOf Tryd.prog) (F47_g N) F47_an (lam N []) Tryd.f47 (F47_s N).S ((F47_s N).args x) ((F47_s N).bs x) = (F47_s N).t x Ret (fun y => some ((F47_s N).ret y)) := by kernel_rfl
theorem F47_pat (N : Nat) (a : List AV) (b : List (List AV)) (x : (F47_s N).X) (h : (F47_s N).pat a b = some x) : a = (F47_s N).args x ∧ b = (F47_s N).bs x := by
  dsimp only [F47_s] at h
  split at h
  · cases h; exact ⟨rfl, rfl⟩
  · cases h
noncomputable def F47_e (N : Nat) : Ent Tryd.prog := entOf (tabOf_ok Tryd.prog) (gam_ok _) mixed 47 Tryd.f47 Tryd.func47 rfl F47_an (lam N []) (by
    have e : actOf F47_an (Tryd.f47.body.getD .skip) 0 = [] := by kernel_rfl
    rw [e]
    intro p hp
    cases hp) (F47_s N) (fun _ => ⟨rfl, rfl⟩) (F47_text N) (F47_pat N) (F47_parF N)
/-! ### slices.BinarySearch[[]int,int] (function 41) -/
def F41_an : Nat → Keep × Keep := anL [(5, ⟨[1, 6, 7, 8], [], [], [(0, 1)], [], [], [], [], false⟩, ⟨[1, 6, 7], [], [], [(0, 1)], [], [], [], [], false⟩)]
noncomputable def F41_g (N : Nat) : GamK := gam (P := Tryd.prog) [F46_e N, F47_e N]
noncomputable def F41_l5 (N : Nat) : LSpec where
  X := (List (List AV)) × Int × Int × Int × Int
  Y := ((List (List AV)) × Int × Int × Int)
  p := fun s => match s.env.length, s.nin, s.at 0, s.at 1, s.at 6, s.at 7, s.at 8 with
    | 54, 0, (AV.list 1 a0 none), (AV.v (.int .i64 a1)), (AV.v (.int .i64 a2)), (AV.v (.int .i64 a3)), (AV.v (.int .i64 a4)) => some (a0, a1, a2, a3, a4)
    | _, _, _, _, _, _, _ => none
  st := fun x => mkS 54 [(0, (AV.list 1 x.1 none)), (1, (AV.v (.int .i64 x.2.1))), (6, (AV.v (.int .i64 x.2.2.1))), (7, (AV.v (.int .i64 x.2.2.2.1))), (8, (AV.v (.int .i64 x.2.2.2.2)))] [] (F41_an 5).1.toks 0
  out := fun y => (.exit 0, mkS 54 [(0, (AV.list 1 y.1 none)), (1, (AV.v (.int .i64 y.2.1))), (6, (AV.v (.int .i64 y.2.2.1))), (7, (AV.v (.int .i64 y.2.2.2)))] [] (F41_an 5).2.toks 0)
  sp := fun y α k => k (.exit 0, mkS 54 [(0, (AV.list 1 y.1 none)), (1, (AV.v (.int .i64 y.2.1))), (6, (AV.v (.int .i64 y.2.2.1))), (7, (AV.v (.int .i64 y.2.2.2)))] [] (F41_an 5).2.toks 0)
  spe := fun y α k => rfl
  b := fun x α kn ke => (match (decide (x.2.2.2.1 < x.2.2.2.2)) with | true => (if 0 ≤ (IntKind.i64.wrap (shR .u64 (IntKind.u64.wrap (i64 (x.2.2.2.1 + x.2.2.2.2))) (1 : Int))) then (match x.1[(IntKind.i64.wrap (shR .u64 (IntKind.u64.wrap (i64 (x.2.2.2.1 + x.2.2.2.2))) (1 : Int))).toNat]? with | some c1 => (match c1[0]? with | some x2 => (match x2 with | .v (.int q4 n3) => (if q4 = .i64 then (match F46_d N (n3, x.2.1) with | some y5 => (match y5 with | true => (kn (x.1, x.2.1, x.2.2.1, (i64 ((IntKind.i64.wrap (shR .u64 (IntKind.u64.wrap (i64 (x.2.2.2.1 + x.2.2.2.2))) (1 : Int))) + 1)), x.2.2.2.2)) | false => (kn (x.1, x.2.1, x.2.2.1, x.2.2.2.1, (IntKind.i64.wrap (shR .u64 (IntKind.u64.wrap (i64 (x.2.2.2.1 + x.2.2.2.2))) (1 : Int)))))) | none => none) else none) | _ => none) | none => none) | none => none) else none) | false => (ke (x.1, x.2.1, x.2.2.1, x.2.2.2.1)))
noncomputable abbrev F41_d5 (N : Nat) (x : (List (List AV)) × Int × Int × Int × Int) : Option (((List (List AV)) × Int × Int × Int)) := (F41_l5 N).L N x
noncomputable def F41_s (N : Nat) : FSpec where
  X := (List (List AV)) × Int
  Y := Int × Bool
  ash := [[some 1], [none]]
  bsh := []
  S := ⟨[[none], [none]], [], [], [], []⟩
  bm := false
  pat := fun a b => match a, b with
    | [(AV.list 1 a0 none), (AV.v (.int .i64 a1))], [] => some (a0, a1)
    | _, _ => none
  args := fun x => [(AV.list 1 x.1 none), (AV.v (.int .i64 x.2))]
  bs := fun x => []
  ret := fun y => ⟨(AV.tup [(AV.v (.int .i64 y.1)), (AV.v (.bool y.2))]), [], none, [], [], []⟩
  t := fun x α k => (match F41_d5 N (x.1, x.2, (x.1.length : Int), 0, (x.1.length : Int)) with | some y6 => (match (decide (y6.2.2.2 < y6.2.2.1)) with | true => (if 0 ≤ y6.2.2.2 then (match y6.1[y6.2.2.2.toNat]? with | some c7 => (match c7[0]? with | some x8 => (match x8 with | .v (.int q10 n9) => (if q10 = .i64 then (match (n9 == y6.2.1) with | true => (k (y6.2.2.2, true)) | false => (if 0 ≤ y6.2.2.2 then (match y6.1[y6.2.2.2.toNat]? with | some c11 => (match c11[0]? with | some x12 => (match x12 with | .v (.int q14 n13) => (if q14 = .i64 then (match F47_d N n13 with | some y15 => (match y15 with | true => (match F47_d N y6.2.1 with | some y16 => (k (y6.2.2.2, y16)) | none => none) | false => (k (y6.2.2.2, false))) | none => none) else none) | _ => none) | none => none) | none => none) else none)) else none) | _ => none) | none => none) | none => none) else none) | false => (k (y6.2.2.2, false))) | none => none)
noncomputable abbrev F41_d (N : Nat) (x : (List (List AV)) × Int) : Option (Int × Bool) := (F41_s N).d x
theorem F41_par5 (N : Nat) : Par (F41_l5 N).b := by
  intro x α β kn ke kn' ke' r r' h h1 h2
  revert h
  dsimp only [F41_l5]
  (repeat' (first | (with_reducible refine par_ite ?_ ?_) | (with_reducible refine par_both ?_ ?_) | split)) <;> intro h <;> first | exact h1 _ h | exact h2 _ h | (cases h; done)
theorem F41_body5 (N : Nat) (x : (F41_l5 N).X) (α : Type) (kn : AS → Option α) (ke : Out → Option α) : around (tabOf Tryd.prog) (F41_g N) F41_an (lam N [(5, F41_l5 N)]) 5 (bodyOf (nthLoop 5 (Tryd.f41.body.getD .skip))) ((F41_l5 N).st x) kn ke = (F41_l5 N).b x α (fun x' => kn ((F41_l5 N).st x')) (fun y => (F41_l5 N).sp y α ke) := by kernel_rfl
theorem F41_pat5 (N : Nat) (s : AS) (x : (F41_l5 N).X) (hc : s = canon (F41_an 5).1 s) (h : (F41_l5 N).p s = some x) : s = (F41_l5 N).st x := by
  dsimp only [F41_l5] at h
  split at h
  · cases h
    exact canon_mk hc ‹_› ‹_› rfl rfl rfl ⟨‹_›, ‹_›, ‹_›, ‹_›, ‹_›, trivial⟩ trivial
  · cases h
theorem F41_loop5 (N : Nat) : ∀ s o, s = canon (F41_an 5).1 s → (lam N [(5, F41_l5 N)]).v 5 s = some o → LoopSem Tryd.prog (nthLoop 5 (Tryd.f41.body.getD .skip)) s o :=
  loop_ok (tabOf_ok Tryd.prog) (gam_ok _) mixed F41_an N [(5, F41_l5 N)] 5 (bodyOf (nthLoop 5 (Tryd.f41.body.getD .skip))) (nthLoop 5 (Tryd.f41.body.getD .skip)) (by kernel_rfl) (by
    have e : actOf F41_an (bodyOf (nthLoop 5 (Tryd.f41.body.getD .skip))) (5 + 1) = [] := by kernel_rfl
    rw [e]
    intro p hp
    cases hp) (F41_l5 N) rfl (fun s x hc h => F41_pat5 N s x hc h) (fun x => rfl) (fun x α kn ke => (F41_body5 N x α kn ke).trans (congrArg ((F41_l5 N).b x α _) (funext fun y => (F41_l5 N).spe y α ke))) (F41_par5 N)
theorem F41_parF (N : Nat) : ParF (F41_s N).t := by
  intro x α β k k' r r' h h1
  revert h
  dsimp only [F41_s]
  (repeat' (first | (with_reducible refine par_ite ?_ ?_) | (with_reducible refine par_both ?_ ?_) | split)) <;> intro h <;> first | exact h1 _ h | (cases h; done)
theorem F41_text (N : Nat) (x : (F41_s N).X) : acall (tabOf Tryd.prog) (F41_g N) F41_an (lam N [(5, F41_l5 N)]) Tryd.f41 (F41_s N).S ((F41_s N).args x) ((F41_s N).bs x) = (F41_s N).t x Ret (fun y => some ((F41_s N).ret y)) := by kernel_rfl
theorem F41_pat (N : Nat) (a : List AV) (b : List (List AV)) (x : (F41_s N).X) (h : (F41_s N).pat a b = some x) : a = (F41_s N).args x ∧ b = (F41_s N).bs x := by
  dsimp only [F41_s] at h
  split at h
  · cases h; exact ⟨rfl, rfl⟩
  · cases h
noncomputable def F41_e (N : Nat) : Ent Tryd.prog := entOf (tabOf_ok Tryd.prog) (gam_ok _) mixed 41 Tryd.f41 Tryd.func41 rfl F41_an (lam N [(5, F41_l5 N)]) (by
    have e : actOf F41_an (Tryd.f41.body.getD .skip) 0 = [(5, nthLoop 5 (Tryd.f41.body.getD .skip))] := by kernel_rfl
    rw [e]
    intro p hp
    rcases List.mem_cons.1 hp with rfl | hp
    · exact F41_loop5 N
    cases hp) (F41_s N) (fun _ => ⟨rfl, rfl⟩) (F41_text N) (F41_pat N) (F41_parF N)
/-! ### seismonet/utc.Date (function 10) -/
def F10_an : Nat → Keep × Keep := anL [(8, ⟨[0, 2], [], [], [], [], [], [], [], false⟩, ⟨[0, 2], [], [], [], [], [], [], [], false⟩), (17, ⟨[0, 2, 3], [], [], [], [], [], [], [], false⟩, ⟨[0, 2, 3], [], [], [], [], [], [], [], false⟩)]
noncomputable def F10_g (N : Nat) : GamK := gam (P := Tryd.prog) [F36_e N, F34_e N, F35_e N]
noncomputable def F10_l17 (N : Nat) : LSpec where
  X := Int × Int × Int
  Y := (Int × Int × Int)
  p := fun s => match s.env.length, s.nin, s.at 0, s.at 2, s.at 3 with
    | 37, 0, (AV.v (.int .i64 a0)), (AV.v (.int .i64 a1)), (AV.v (.int .i64 a2)) => some (a0, a1, a2)
    | _, _, _, _, _ => none
  st := fun x => mkS 37 [(0, (AV.v (.int .i64 x.1))), (2, (AV.v (.int .i64 x.2.1))), (3, (AV.v (.int .i64 x.2.2)))] [] (F10_an 17).1.toks 0
  out := fun y => (.exit 2, mkS 37 [(0, (AV.v (.int .i64 y.1))), (2, (AV.v (.int .i64 y.2.1))), (3, (AV.v (.int .i64 y.2.2)))] [] (F10_an 17).2.toks 0)
  sp := fun y α k => k (.exit 2, mkS 37 [(0, (AV.v (.int .i64 y.1))), (2, (AV.v (.int .i64 y.2.1))), (3, (AV.v (.int .i64 y.2.2)))] [] (F10_an 17).2.toks 0)
  spe := fun y α k => rfl
  b := fun x α kn ke => (match F35_d N (x.2.1, x.2.2) with | some y6 => (match (decide (x.1 ≥ y6)) with | true => (match F35_d N (x.2.1, x.2.2) with | some y7 => (kn ((i64 (x.1 - y7)), x.2.1, (i64 (x.2.2 + 1)))) | none => none) | false => (ke (x.1, x.2.1, x.2.2))) | none => none)
noncomputable abbrev F10_d17 (N : Nat) (x : Int × Int × Int) : Option ((Int × Int × Int)) := (F10_l17 N).L N x
noncomputable def F10_l8 (N : Nat) : LSpec where
  X := Int × Int
  Y := (Int × Int)
  p := fun s => match s.env.length, s.nin, s.at 0, s.at 2 with
    | 37, 0, (AV.v (.int .i64 a0)), (AV.v (.int .i64 a1)) => some (a0, a1)
    | _, _, _, _ => none
  st := fun x => mkS 37 [(0, (AV.v (.int .i64 x.1))), (2, (AV.v (.int .i64 x.2)))] [] (F10_an 8).1.toks 0
  out := fun y => (.exit 0, mkS 37 [(0, (AV.v (.int .i64 y.1))), (2, (AV.v (.int .i64 y.2)))] [] (F10_an 8).2.toks 0)
  sp := fun y α k => k (.exit 0, mkS 37 [(0, (AV.v (.int .i64 y.1))), (2, (AV.v (.int .i64 y.2)))] [] (F10_an 8).2.toks 0)
  spe := fun y α k => rfl
  b := fun x α kn ke => (match F36_d N (i64 (x.2 + 1)) with | some y3 => (match (decide (y3 ≤ x.1)) with | true => (kn (x.1, (i64 (x.2 + 1)))) | false => (ke (x.1, x.2))) | none => none)
noncomputable abbrev F10_d8 (N : Nat) (x : Int × Int) : Option ((Int × Int)) := (F10_l8 N).L N x
noncomputable def F10_s (N : Nat) : FSpec where
  X := Int
  Y := Int × Int × Int
  ash := [[none]]
  bsh := []
  S := ⟨[[none], [none], [none]], [], [], [], []⟩
  bm := false
  pat := fun a b => match a, b with
    | [(AV.v (.int .i64 a0))], [] => some a0
    | _, _ => none
  args := fun x => [(AV.v (.int .i64 x))]
  bs := fun x => []
  ret := fun y => ⟨(AV.tup [(AV.v (.int .i64 y.1)), (AV.v (.int .i64 y.2.1)), (AV.v (.int .i64 y.2.2))]), [], none, [], [], []⟩
  t := fun x α k => (match F36_d N 2301 with | some y1 => (match F34_d N (x, 0, (i64 (y1 - 1))) with | some y2 => (match (!y2) with | true => (k (0, 0, 0)) | false => (match F10_d8 N (x, 1970) with | some y4 => (match F36_d N y4.2 with | some y5 => (match F10_d17 N ((i64 (y4.1 - y5)), y4.2, 1) with | some y8 => (k (y8.2.1, y8.2.2, (i64 (y8.1 + 1)))) | none => none) | none => none) | none => none)) | none => none) | none => none)
noncomputable abbrev F10_d (N : Nat) (x : Int) : Option (Int × Int × Int) := (F10_s N).d x
theorem F10_par17 (N : Nat) : Par (F10_l17 N).b := by
  intro x α β kn ke kn' ke' r r' h h1 h2
  revert h
  dsimp only [F10_l17]
  (repeat' (first | (with_reducible refine par_ite ?_ ?_) | (with_reducible refine par_both ?_ ?_) | split)) <;> intro h <;> first | exact h1 _ h | exact h2 _ h | (cases h; done)
theorem F10_body17 (N : Nat) (x : (F10_l17 N).X) (α : Type) (kn : AS → Option α) (ke : Out → Option α) : around (tabOf Tryd.prog) (F10_g N) F10_an (lam N [(8, F10_l8 N), (17, F10_l17 N)]) 17 (bodyOf (nthLoop 17 (Tryd.f10.body.getD .skip))) ((F10_l17 N).st x) kn ke = (F10_l17 N).b x α (fun x' => kn ((F10_l17 N).st x')) (fun y => (F10_l17 N).sp y α ke) := by kernel_rfl
theorem F10_pat17 (N : Nat) (s : AS) (x : (F10_l17 N).X) (hc : s = canon (F10_an 17).1 s) (h : (F10_l17 N).p s = some x) : s = (F10_l17 N).st x := by
  dsimp only [F10_l17] at h
  split at h
  · cases h
    exact canon_mk hc ‹_› ‹_› rfl rfl rfl ⟨‹_›, ‹_›, ‹_›, trivial⟩ trivial
  · cases h
theorem F10_loop17 (N : Nat) : ∀ s o, s = canon (F10_an 17).1 s → (lam N [(8, F10_l8 N), (17, F10_l17 N)]).v 17 s = some o → LoopSem Tryd.prog (nthLoop 17 (Tryd.f10.body.getD .skip)) s o :=
  loop_ok (tabOf_ok Tryd.prog) (gam_ok _) mixed F10_an N [(8, F10_l8 N), (17, F10_l17 N)] 17 (bodyOf (nthLoop 17 (Tryd.f10.body.getD .skip))) (nthLoop 17 (Tryd.f10.body.getD .skip)) (by kernel_rfl) (by
    have e : actOf F10_an (bodyOf (nthLoop 17 (Tryd.f10.body.getD .skip))) (17 + 1) = [] := by kernel_rfl
    rw [e]
    intro p hp
    cases hp) (F10_l17 N) rfl (fun s x hc h => F10_pat17 N s x hc h) (fun x => rfl) (fun x α kn ke => (F10_body17 N x α kn ke).trans (congrArg ((F10_l17 N).b x α _) (funext fun y => (F10_l17 N).spe y α ke))) (F10_par17 N)
theorem F10_par8 (N : Nat) : Par (F10_l8 N).b := by
  intro x α β kn ke kn' ke' r r' h h1 h2
  revert h
  dsimp only [F10_l8]
  (repeat' (first | (with_reducible refine par_ite ?_ ?_) | (with_reducible refine par_both ?_ ?_) | split)) <;> intro h <;> first | exact h1 _ h | exact h2 _ h | (cases h; done)
theorem F10_body8 (N : Nat) (x : (F10_l8 N).X) (α : Type) (kn : AS → Option α) (ke : Out → Option α) : around (tabOf Tryd.prog) (F10_g N) F10_an (lam N [(8, F10_l8 N), (17, F10_l17 N)]) 8 (bodyOf (nthLoop 8 (Tryd.f10.body.getD .skip))) ((F10_l8 N).st x) kn ke = (F10_l8 N).b x α (fun x' => kn ((F10_l8 N).st x')) (fun y => (F10_l8 N).sp y α ke) := by kernel_rfl
theorem F10_pat8 (N : Nat) (s : AS) (x : (F10_l8 N).X) (hc : s = canon (F10_an 8).1 s) (h : (F10_l8 N).p s = some x) : s = (F10_l8 N).st x := by
  dsimp only [F10_l8] at h
  split at h
  · cases h
    exact canon_mk hc ‹_› ‹_› rfl rfl rfl ⟨‹_›, ‹_›, trivial⟩ trivial
  · cases h
theorem F10_loop8 (N : Nat) : ∀ s o, s = canon (F10_an 8).1 s → (lam N [(8, F10_l8 N), (17, F10_l17 N)]).v 8 s = some o → LoopSem Tryd.prog (nthLoop 8 (Tryd.f10.body.getD .skip)) s o :=
  loop_ok (tabOf_ok Tryd.prog) (gam_ok _) mixed F10_an N [(8, F10_l8 N), (17, F10_l17 N)] 8 (bodyOf (nthLoop 8 (Tryd.f10.body.getD .skip))) (nthLoop 8 (Tryd.f10.body.getD .skip)) (by kernel_rfl) (by
    have e : actOf F10_an (bodyOf (nthLoop 8 (Tryd.f10.body.getD .skip))) (8 + 1) = [] := by kernel_rfl
    rw [e]
    intro p hp
    cases hp) (F10_l8 N) rfl (fun s x hc h => F10_pat8 N s x hc h) (fun x => rfl) (fun x α kn ke => (F10_body8 N x α kn ke).trans (congrArg ((F10_l8 N).b x α _) (funext fun y => (F10_l8 N).spe y α ke))) (F10_par8 N)
theorem F10_parF (N : Nat) : ParF (F10_s N).t := by
  intro x α β k k' r r' h h1
  revert h
  dsimp only [F10_s]
  (repeat' (first | (with_reducible refine par_ite ?_ ?_) | (with_reducible refine par_both ?_ ?_) | split)) <;> intro h <;> first | exact h1 _ h | (cases h; done)
theorem F10_text (N : Nat) (x : (F10_s N).X) : acall (tabOf Tryd.prog) (F10_g N) F10_an (lam N [(8, F10_l8 N), (17, F10_l17 N)]) Tryd.f10 (F10_s N).S ((F10_s N).args x) ((F10_s N).bs x) = (F10_s N).t x Ret (fun y => some ((F10_s N).ret y)) := by kernel_rfl
theorem F10_pat (N : Nat) (a : List AV) (b : List (List AV)) (x : (F10_s N).X) (h : (F10_s N).pat a b = some x) : a = (F10_s N).args x ∧ b = (F10_s N).bs x := by
  dsimp only [F10_s] at h
  split at h
  · cases h; exact ⟨rfl, rfl⟩
  · cases h
noncomputable def F10_e (N : Nat) : Ent Tryd.prog := entOf (tabOf_ok Tryd.prog) (gam_ok _) mixed 10 Tryd.f10 Tryd.func10 rfl F10_an (lam N [(8, F10_l8 N), (17, F10_l17 N)]) (by
    have e : actOf F10_an (Tryd.f10.body.getD .skip) 0 = [(8, nthLoop 8 (Tryd.f10.body.getD .skip)), (17, nthLoop 17 (Tryd.f10.body.getD .skip))] := by kernel_rfl
    rw [e]
    intro p hp
    rcases List.mem_cons.1 hp with rfl | hp
    · exact F10_loop8 N
    rcases List.mem_cons.1 hp with rfl | hp
    · exact F10_loop17 N
    cases hp) (F10_s N) (fun _ => ⟨rfl, rfl⟩) (F10_text N) (F10_pat N) (F10_parF N)
/-! ### seismonet/utc.ToCivil (function 18) -/
def F18_an : Nat → Keep × Keep := anL []
noncomputable def F18_g (N : Nat) : GamK := gam (P := Tryd.prog) [F26_e N, F40_e N, F41_e N, F10_e N]
noncomputable def F18_s (N : Nat) : FSpec where
  X := (List (List AV)) × Int
  Y := Int × Int × Int × Int × Int × Int × Int × Int
  ash := [[some 1], [none]]
  bsh := []
  S := ⟨[[none, none, none, none, none, none, none], [none]], [], [], [], []⟩
  bm := false
  pat := fun a b => match a, b with
    | [(AV.list 1 a0 none), (AV.v (.int .i64 a1))], [] => some (a0, a1)
    | _, _ => none
  args := fun x => [(AV.list 1 x.1 none), (AV.v (.int .i64 x.2))]
  bs := fun x => []
  ret := fun y => ⟨(AV.tup [(AV.agg [(AV.v (.int .i64 y.1)), (AV.v (.int .i64 y.2.1)), (AV.v (.int .i64 y.2.2.1)), (AV.v (.int .i64 y.2.2.2.1)), (AV.v (.int .i64 y.2.2.2.2.1)), (AV.v (.int .i64 y.2.2.2.2.2.1)), (AV.v (.int .i64 y.2.2.2.2.2.2.1))]), (AV.v (.int .i64 y.2.2.2.2.2.2.2))]), [], none, [], [], []⟩
  t := fun x α k => (match F26_d N x.1 with | some y1 => (match (!y1) with | true => (k (0, 0, 0, 0, 0, 0, 0, 1)) | false => (match F40_d N x.2 with | some y2 => (match (!y2) with | true => (k (0, 0, 0, 0, 0, 0, 0, 2)) | false => (match F41_d N (x.1, (i64 (x.2.tdiv 1000000))) with | some y3 => (match y3.2 with | true => (match F10_d N (i64 ((i64 ((i64 ((i64 (x.2.tdiv 1000000)) - y3.1)) - 1)).tdiv 86400)) with | some y4 => (match y3.2 with | true => (k (y4.1, y4.2.1, y4.2.2, (i64 (((i64 ((i64 ((i64 (x.2.tdiv 1000000)) - y3.1)) - 1)).tmod 86400).tdiv 3600)), ((i64 ((i64 ((i64 ((i64 (x.2.tdiv 1000000)) - y3.1)) - 1)).tdiv 60)).tmod 60), 60, (x.2.tmod 1000000), 0)) | false => (k (y4.1, y4.2.1, y4.2.2, (i64 (((i64 ((i64 ((i64 (x.2.tdiv 1000000)) - y3.1)) - 1)).tmod 86400).tdiv 3600)), ((i64 ((i64 ((i64 ((i64 (x.2.tdiv 1000000)) - y3.1)) - 1)).tdiv 60)).tmod 60), ((i64 ((i64 ((i64 (x.2.tdiv 1000000)) - y3.1)) - 1)).tmod 60), (x.2.tmod 1000000), 0))) | none => none) | false => (match F10_d N (i64 ((i64 ((i64 (x.2.tdiv 1000000)) - y3.1)).tdiv 86400)) with | some y5 => (match y3.2 with | true => (k (y5.1, y5.2.1, y5.2.2, (i64 (((i64 ((i64 (x.2.tdiv 1000000)) - y3.1)).tmod 86400).tdiv 3600)), ((i64 ((i64 ((i64 (x.2.tdiv 1000000)) - y3.1)).tdiv 60)).tmod 60), 60, (x.2.tmod 1000000), 0)) | false => (k (y5.1, y5.2.1, y5.2.2, (i64 (((i64 ((i64 (x.2.tdiv 1000000)) - y3.1)).tmod 86400).tdiv 3600)), ((i64 ((i64 ((i64 (x.2.tdiv 1000000)) - y3.1)).tdiv 60)).tmod 60), ((i64 ((i64 (x.2.tdiv 1000000)) - y3.1)).tmod 60), (x.2.tmod 1000000), 0))) | none => none)) | none => none)) | none => none)) | none => none)
noncomputable abbrev F18_d (N : Nat) (x : (List (List AV)) × Int) : Option (Int × Int × Int × Int × Int × Int × Int × Int) := (F18_s N).d x
theorem F18_parF (N : Nat) : ParF (F18_s N).t := by
  intro x α β k k' r r' h h1
  revert h
  dsimp only [F18_s]
  (repeat' (first | (with_reducible refine par_ite ?_ ?_) | (with_reducible refine par_both ?_ ?_) | split)) <;> intro h <;> first | exact h1 _ h | (cases h; done)
theorem F18_text (N : Nat) (x : (F18_s N).X) : acall (tabOf Tryd.prog) (F18_g N) F18_an (lam N []) Tryd.f18 (F18_s N).S ((F18_s N).args x) ((F18_s N).bs x) = (F18_s N).t x Ret (fun y => some ((F18_s N).ret y)) := by kernel_rfl
theorem F18_pat (N : Nat) (a : List AV) (b : List (List AV)) (x : (F18_s N).X) (h : (F18_s N).pat a b = some x) : a = (F18_s N).args x ∧ b = (F18_s N).bs x := by
  dsimp only [F18_s] at h
  split at h
  · cases h; exact ⟨rfl, rfl⟩
  · cases h
noncomputable def F18_e (N : Nat) : Ent Tryd.prog := entOf (tabOf_ok Tryd.prog) (gam_ok _) mixed 18 Tryd.f18 Tryd.func18 rfl F18_an (lam N []) (by
    have e : actOf F18_an (Tryd.f18.body.getD .skip) 0 = [] := by kernel_rfl
    rw [e]
    intro p hp
    cases hp) (F18_s N) (fun _ => ⟨rfl, rfl⟩) (F18_text N) (F18_pat N) (F18_parF N)
/-! ### seismonet/utc.Format (function 16) -/
def F16_an : Nat → Keep × Keep := anL []
noncomputable def F16_g (N : Nat) : GamK := gam (P := Tryd.prog) [F18_e N, F39_e N]
noncomputable def F16_s (N : Nat) : FSpec where
  X := (List (List AV)) × Int
  Y := ByteArray × Int
  ash := [[some 1], [none]]
  bsh := []
  S := ⟨[[none], [none]], [], [], [], []⟩
  bm := false
  pat := fun a b => match a, b with
    | [(AV.list 1 a0 none), (AV.v (.int .i64 a1))], [] => some (a0, a1)
    | _, _ => none
  args := fun x => [(AV.list 1 x.1 none), (AV.v (.int .i64 x.2))]
  bs := fun x => []
  ret := fun y => ⟨(AV.tup [(AV.v (.string y.1)), (AV.v (.int .i64 y.2))]), [], none, [], [], []⟩
  t := fun x α k => (match F18_d N (x.1, x.2) with | some y1 => (match (y1.2.2.2.2.2.2.2 != 0) with | true => (k ((⟨#[]⟩ : ByteArray), y1.2.2.2.2.2.2.2)) | false => (match F39_d N (y1.1, 4) with | some y2 => (if y2.size + (⟨#[45]⟩ : ByteArray).size ≤ 9223372036854775807 then (match F39_d N (y1.2.1, 2) with | some y3 => (if (y2 ++ (⟨#[45]⟩ : ByteArray)).size + y3.size ≤ 9223372036854775807 then (if ((y2 ++ (⟨#[45]⟩ : ByteArray)) ++ y3).size + (⟨#[45]⟩ : ByteArray).size ≤ 9223372036854775807 then (match F39_d N (y1.2.2.1, 2) with | some y4 => (if (((y2 ++ (⟨#[45]⟩ : ByteArray)) ++ y3) ++ (⟨#[45]⟩ : ByteArray)).size + y4.size ≤ 9223372036854775807 then (if ((((y2 ++ (⟨#[45]⟩ : ByteArray)) ++ y3) ++ (⟨#[45]⟩ : ByteArray)) ++ y4).size + (⟨#[84]⟩ : ByteArray).size ≤ 9223372036854775807 then (match F39_d N (y1.2.2.2.1, 2) with | some y5 => (if (((((y2 ++ (⟨#[45]⟩ : ByteArray)) ++ y3) ++ (⟨#[45]⟩ : ByteArray)) ++ y4) ++ (⟨#[84]⟩ : ByteArray)).size + y5.size ≤ 9223372036854775807 then (if ((((((y2 ++ (⟨#[45]⟩ : ByteArray)) ++ y3) ++ (⟨#[45]⟩ : ByteArray)) ++ y4) ++ (⟨#[84]⟩ : ByteArray)) ++ y5).size + (⟨#[58]⟩ : ByteArray).size ≤ 9223372036854775807 then (match F39_d N (y1.2.2.2.2.1, 2) with | some y6 => (if (((((((y2 ++ (⟨#[45]⟩ : ByteArray)) ++ y3) ++ (⟨#[45]⟩ : ByteArray)) ++ y4) ++ (⟨#[84]⟩ : ByteArray)) ++ y5) ++ (⟨#[58]⟩ : ByteArray)).size + y6.size ≤ 9223372036854775807 then (if ((((((((y2 ++ (⟨#[45]⟩ : ByteArray)) ++ y3) ++ (⟨#[45]⟩ : ByteArray)) ++ y4) ++ (⟨#[84]⟩ : ByteArray)) ++ y5) ++ (⟨#[58]⟩ : ByteArray)) ++ y6).size + (⟨#[58]⟩ : ByteArray).size ≤ 9223372036854775807 then (match F39_d N (y1.2.2.2.2.2.1, 2) with | some y7 => (if (((((((((y2 ++ (⟨#[45]⟩ : ByteArray)) ++ y3) ++ (⟨#[45]⟩ : ByteArray)) ++ y4) ++ (⟨#[84]⟩ : ByteArray)) ++ y5) ++ (⟨#[58]⟩ : ByteArray)) ++ y6) ++ (⟨#[58]⟩ : ByteArray)).size + y7.size ≤ 9223372036854775807 then (if ((((((((((y2 ++ (⟨#[45]⟩ : ByteArray)) ++ y3) ++ (⟨#[45]⟩ : ByteArray)) ++ y4) ++ (⟨#[84]⟩ : ByteArray)) ++ y5) ++ (⟨#[58]⟩ : ByteArray)) ++ y6) ++ (⟨#[58]⟩ : ByteArray)) ++ y7).size + (⟨#[46]⟩ : ByteArray).size ≤ 9223372036854775807 then (match F39_d N (y1.2.2.2.2.2.2.1, 6) with | some y8 => (if (((((((((((y2 ++ (⟨#[45]⟩ : ByteArray)) ++ y3) ++ (⟨#[45]⟩ : ByteArray)) ++ y4) ++ (⟨#[84]⟩ : ByteArray)) ++ y5) ++ (⟨#[58]⟩ : ByteArray)) ++ y6) ++ (⟨#[58]⟩ : ByteArray)) ++ y7) ++ (⟨#[46]⟩ : ByteArray)).size + y8.size ≤ 9223372036854775807 then (if ((((((((((((y2 ++ (⟨#[45]⟩ : ByteArray)) ++ y3) ++ (⟨#[45]⟩ : ByteArray)) ++ y4) ++ (⟨#[84]⟩ : ByteArray)) ++ y5) ++ (⟨#[58]⟩ : ByteArray)) ++ y6) ++ (⟨#[58]⟩ : ByteArray)) ++ y7) ++ (⟨#[46]⟩ : ByteArray)) ++ y8).size + (⟨#[90]⟩ : ByteArray).size ≤ 9223372036854775807 then (k ((((((((((((((y2 ++ (⟨#[45]⟩ : ByteArray)) ++ y3) ++ (⟨#[45]⟩ : ByteArray)) ++ y4) ++ (⟨#[84]⟩ : ByteArray)) ++ y5) ++ (⟨#[58]⟩ : ByteArray)) ++ y6) ++ (⟨#[58]⟩ : ByteArray)) ++ y7) ++ (⟨#[46]⟩ : ByteArray)) ++ y8) ++ (⟨#[90]⟩ : ByteArray)), 0)) else none) else none) | none => none) else none) else none) | none => none) else none) else none) | none => none) else none) else none) | none => none) else none) else none) | none => none) else none) else none) | none => none) else none) | none => none)) | none => none)
noncomputable abbrev F16_d (N : Nat) (x : (List (List AV)) × Int) : Option (ByteArray × Int) := (F16_s N).d x
theorem F16_parF (N : Nat) : ParF (F16_s N).t := by
  intro x α β k k' r r' h h1
  revert h
  dsimp only [F16_s]
  (repeat' (first | (with_reducible refine par_ite ?_ ?_) | (with_reducible refine par_both ?_ ?_) | split)) <;> intro h <;> first | exact h1 _ h | (cases h; done)
theorem F16_text (N : Nat) (x : (F16_s N).X) : acall (tabOf Tryd.prog) (F16_g N) F16_an (lam N []) Tryd.f16 (F16_s N).S ((F16_s N).args x) ((F16_s N).bs x) = (F16_s N).t x Ret (fun y => some ((F16_s N).ret y)) := by kernel_rfl
theorem F16_pat (N : Nat) (a : List AV) (b : List (List AV)) (x : (F16_s N).X) (h : (F16_s N).pat a b = some x) : a = (F16_s N).args x ∧ b = (F16_s N).bs x := by
  dsimp only [F16_s] at h
  split at h
  · cases h; exact ⟨rfl, rfl⟩
  · cases h
noncomputable def F16_e (N : Nat) : Ent Tryd.prog := entOf (tabOf_ok Tryd.prog) (gam_ok _) mixed 16 Tryd.f16 Tryd.func16 rfl F16_an (lam N []) (by
    have e : actOf F16_an (Tryd.f16.body.getD .skip) 0 = [] := by kernel_rfl
    rw [e]
    intro p hp
    cases hp) (F16_s N) (fun _ => ⟨rfl, rfl⟩) (F16_text N) (F16_pat N) (F16_parF N)
/-! ### seismonet/utc.Days (function 8) -/
def F8_an : Nat → Keep × Keep := anL [(9, ⟨[0, 1, 8, 9], [], [], [], [], [], [], [], false⟩, ⟨[8], [], [], [], [], [], [], [], false⟩)]
noncomputable def F8_g (N : Nat) : GamK := gam (P := Tryd.prog) [F34_e N, F35_e N, F36_e N]
noncomputable def F8_l9 (N : Nat) : LSpec where
  X := Int × Int × Int × Int
  Y := (Int)
  p := fun s => match s.env.length, s.nin, s.at 0, s.at 1, s.at 8, s.at 9 with
    | 42, 0, (AV.v (.int .i64 a0)), (AV.v (.int .i64 a1)), (AV.v (.int .i64 a2)), (AV.v (.int .i64 a3)) => some (a0, a1, a2, a3)
    | _, _, _, _, _, _ => none
  st := fun x => mkS 42 [(0, (AV.v (.int .i64 x.1))), (1, (AV.v (.int .i64 x.2.1))), (8, (AV.v (.int .i64 x.2.2.1))), (9, (AV.v (.int .i64 x.2.2.2)))] [] (F8_an 9).1.toks 0
  out := fun y => (.exit 0, mkS 42 [(8, (AV.v (.int .i64 y)))] [] (F8_an 9).2.toks 0)
  sp := fun y α k => k (.exit 0, mkS 42 [(8, (AV.v (.int .i64 y)))] [] (F8_an 9).2.toks 0)
  spe := fun y α k => rfl
  b := fun x α kn ke => (match (decide (x.2.2.2 < x.2.1)) with | true => (match F35_d N (x.1, x.2.2.2) with | some y6 => (kn (x.1, x.2.1, (i64 (x.2.2.1 + y6)), (i64 (x.2.2.2 + 1)))) | none => none) | false => (ke x.2.2.1))
noncomputable abbrev F8_d9 (N : Nat) (x : Int × Int × Int × Int) : Option ((Int)) := (F8_l9 N).L N x
noncomputable def F8_s (N : Nat) : FSpec where
  X := Int × Int × Int
  Y := Int × Bool
  ash := [[none], [none], [none]]
  bsh := []
  S := ⟨[[none], [none]], [], [], [], []⟩
  bm := false
  pat := fun a b => match a, b with
    | [(AV.v (.int .i64 a0)), (AV.v (.int .i64 a1)), (AV.v (.int .i64 a2))], [] => some (a0, a1, a2)
    | _, _ => none
  args := fun x => [(AV.v (.int .i64 x.1)), (AV.v (.int .i64 x.2.1)), (AV.v (.int .i64 x.2.2))]
  bs := fun x => []
  ret := fun y => ⟨(AV.tup [(AV.v (.int .i64 y.1)), (AV.v (.bool y.2))]), [], none, [], [], []⟩
  t := fun x α k => (match F34_d N (x.1, 1970, 2300) with | some y1 => (match (!y1) with | true => (k (0, false)) | false => (match F34_d N (x.2.1, 1, 12) with | some y2 => (match (!y2) with | true => (k (0, false)) | false => (match F35_d N (x.1, x.2.1) with | some y3 => (match F34_d N (x.2.2, 1, y3) with | some y4 => (match (!y4) with | true => (k (0, false)) | false => (match F36_d N x.1 with | some y5 => (match F8_d9 N (x.1, x.2.1, (i64 ((i64 (y5 + x.2.2)) - 1)), 1) with | some y7 => (k (y7, true)) | none => none) | none => none)) | none => none) | none => none)) | none => none)) | none => none)
noncomputable abbrev F8_d (N : Nat) (x : Int × Int × Int) : Option (Int × Bool) := (F8_s N).d x
theorem F8_par9 (N : Nat) : Par (F8_l9 N).b := by
  intro x α β kn ke kn' ke' r r' h h1 h2
  revert h
  dsimp only [F8_l9]
  (repeat' (first | (with_reducible refine par_ite ?_ ?_) | (with_reducible refine par_both ?_ ?_) | split)) <;> intro h <;> first | exact h1 _ h | exact h2 _ h | (cases h; done)
theorem F8_body9 (N : Nat) (x : (F8_l9 N).X) (α : Type) (kn : AS → Option α) (ke : Out → Option α) : around (tabOf Tryd.prog) (F8_g N) F8_an (lam N [(9, F8_l9 N)]) 9 (bodyOf (nthLoop 9 (Tryd.f8.body.getD .skip))) ((F8_l9 N).st x) kn ke = (F8_l9 N).b x α (fun x' => kn ((F8_l9 N).st x')) (fun y => (F8_l9 N).sp y α ke) := by kernel_rfl
theorem F8_pat9 (N : Nat) (s : AS) (x : (F8_l9 N).X) (hc : s = canon (F8_an 9).1 s) (h : (F8_l9 N).p s = some x) : s = (F8_l9 N).st x := by
  dsimp only [F8_l9] at h
  split at h
  · cases h
    exact canon_mk hc ‹_› ‹_› rfl rfl rfl ⟨‹_›, ‹_›, ‹_›, ‹_›, trivial⟩ trivial
  · cases h
theorem F8_loop9 (N : Nat) : ∀ s o, s = canon (F8_an 9).1 s → (lam N [(9, F8_l9 N)]).v 9 s = some o → LoopSem Tryd.prog (nthLoop 9 (Tryd.f8.body.getD .skip)) s o :=
  loop_ok (tabOf_ok Tryd.prog) (gam_ok _) mixed F8_an N [(9, F8_l9 N)] 9 (bodyOf (nthLoop 9 (Tryd.f8.body.getD .skip))) (nthLoop 9 (Tryd.f8.body.getD .skip)) (by kernel_rfl) (by
    have e : actOf F8_an (bodyOf (nthLoop 9 (Tryd.f8.body.getD .skip))) (9 + 1) = [] := by kernel_rfl
    rw [e]
    intro p hp
    cases hp) (F8_l9 N) rfl (fun s x hc h => F8_pat9 N s x hc h) (fun x => rfl) (fun x α kn ke => (F8_body9 N x α kn ke).trans (congrArg ((F8_l9 N).b x α _) (funext fun y => (F8_l9 N).spe y α ke))) (F8_par9 N)
theorem F8_parF (N : Nat) : ParF (F8_s N).t := by
  intro x α β k k' r r' h h1
  revert h
  dsimp only [F8_s]
  (repeat' (first | (with_reducible refine par_ite ?_ ?_) | (with_reducible refine par_both ?_ ?_) | split)) <;> intro h <;> first | exact h1 _ h | (cases h; done)
theorem F8_text (N : Nat) (x : (F8_s N).X) : acall (tabOf Tryd.prog) (F8_g N) F8_an (lam N [(9, F8_l9 N)]) Tryd.f8 (F8_s N).S ((F8_s N).args x) ((F8_s N).bs x) = (F8_s N).t x Ret (fun y => some ((F8_s N).ret y)) := by kernel_rfl
theorem F8_pat (N : Nat) (a : List AV) (b : List (List AV)) (x : (F8_s N).X) (h : (F8_s N).pat a b = some x) : a = (F8_s N).args x ∧ b = (F8_s N).bs x := by
  dsimp only [F8_s] at h
  split at h
  · cases h; exact ⟨rfl, rfl⟩
  · cases h
noncomputable def F8_e (N : Nat) : Ent Tryd.prog := entOf (tabOf_ok Tryd.prog) (gam_ok _) mixed 8 Tryd.f8 Tryd.func8 rfl F8_an (lam N [(9, F8_l9 N)]) (by
    have e : actOf F8_an (Tryd.f8.body.getD .skip) 0 = [(9, nthLoop 9 (Tryd.f8.body.getD .skip))] := by kernel_rfl
    rw [e]
    intro p hp
    rcases List.mem_cons.1 hp with rfl | hp
    · exact F8_loop9 N
    cases hp) (F8_s N) (fun _ => ⟨rfl, rfl⟩) (F8_text N) (F8_pat N) (F8_parF N)
/-! ### seismonet/utc.FromCivil (function 23) -/
def F23_an : Nat → Keep × Keep := anL [(14, ⟨[3, 8, 9], [], [3], [(0, 1)], [], [], [], [], false⟩, ⟨[3, 8, 9], [], [3], [(0, 1)], [], [], [], [], false⟩)]
noncomputable def F23_g (N : Nat) : GamK := gam (P := Tryd.prog) [F26_e N, F8_e N, F34_e N]
noncomputable def F23_l14 (N : Nat) : LSpec where
  X := (List (List AV)) × Int × Int × Int × Int × Int × Int × Int × Int × Int
  Y := ((List (List AV)) × Int × Int × Int × Int × Int × Int × Int × Int × Int)
  p := fun s => match s.env.length, s.nin, s.at 0, s.at 3, s.at 8, s.at 9, s.bx 3 with
    | 108, 0, (AV.list 1 a0 none), (AV.ptr 3 0), (AV.v (.int .i64 a1)), (AV.v (.int .i64 a2)), some [(AV.v (.int .i64 a3)), (AV.v (.int .i64 a4)), (AV.v (.int .i64 a5)), (AV.v (.int .i64 a6)), (AV.v (.int .i64 a7)), (AV.v (.int .i64 a8)), (AV.v (.int .i64 a9))] => some (a0, a1, a2, a3, a4, a5, a6, a7, a8, a9)
    | _, _, _, _, _, _, _ => none
  st := fun x => mkS 108 [(0, (AV.list 1 x.1 none)), (3, (AV.ptr 3 0)), (8, (AV.v (.int .i64 x.2.1))), (9, (AV.v (.int .i64 x.2.2.1)))] [(3, [(AV.v (.int .i64 x.2.2.2.1)), (AV.v (.int .i64 x.2.2.2.2.1)), (AV.v (.int .i64 x.2.2.2.2.2.1)), (AV.v (.int .i64 x.2.2.2.2.2.2.1)), (AV.v (.int .i64 x.2.2.2.2.2.2.2.1)), (AV.v (.int .i64 x.2.2.2.2.2.2.2.2.1)), (AV.v (.int .i64 x.2.2.2.2.2.2.2.2.2))])] (F23_an 14).1.toks 0
  out := fun y => (.exit 0, mkS 108 [(0, (AV.list 1 y.1 none)), (3, (AV.ptr 3 0)), (8, (AV.v (.int .i64 y.2.1))), (9, (AV.v (.int .i64 y.2.2.1)))] [(3, [(AV.v (.int .i64 y.2.2.2.1)), (AV.v (.int .i64 y.2.2.2.2.1)), (AV.v (.int .i64 y.2.2.2.2.2.1)), (AV.v (.int .i64 y.2.2.2.2.2.2.1)), (AV.v (.int .i64 y.2.2.2.2.2.2.2.1)), (AV.v (.int .i64 y.2.2.2.2.2.2.2.2.1)), (AV.v (.int .i64 y.2.2.2.2.2.2.2.2.2))])] (F23_an 14).2.toks 0)
  sp := fun y α k => k (.exit 0, mkS 108 [(0, (AV.list 1 y.1 none)), (3, (AV.ptr 3 0)), (8, (AV.v (.int .i64 y.2.1))), (9, (AV.v (.int .i64 y.2.2.1)))] [(3, [(AV.v (.int .i64 y.2.2.2.1)), (AV.v (.int .i64 y.2.2.2.2.1)), (AV.v (.int .i64 y.2.2.2.2.2.1)), (AV.v (.int .i64 y.2.2.2.2.2.2.1)), (AV.v (.int .i64 y.2.2.2.2.2.2.2.1)), (AV.v (.int .i64 y.2.2.2.2.2.2.2.2.1)), (AV.v (.int .i64 y.2.2.2.2.2.2.2.2.2))])] (F23_an 14).2.toks 0)
  spe := fun y α k => rfl
  b := fun x α kn ke => (match (decide (x.2.2.1 < (x.1.length : Int))) with | true => (if 0 ≤ x.2.2.1 then (match x.1[x.2.2.1.toNat]? with | some c11 => (match c11[0]? with | some x12 => (match x12 with | .v (.int q14 n13) => (if q14 = .i64 then (match (decide ((i64 (n13 - x.2.2.1)) ≤ x.2.1)) with | true => (kn (x.1, x.2.1, (i64 (x.2.2.1 + 1)), x.2.2.2.1, x.2.2.2.2.1, x.2.2.2.2.2.1, x.2.2.2.2.2.2.1, x.2.2.2.2.2.2.2.1, x.2.2.2.2.2.2.2.2.1, x.2.2.2.2.2.2.2.2.2)) | false => (ke (x.1, x.2.1, x.2.2.1, x.2.2.2.1, x.2.2.2.2.1, x.2.2.2.2.2.1, x.2.2.2.2.2.2.1, x.2.2.2.2.2.2.2.1, x.2.2.2.2.2.2.2.2.1, x.2.2.2.2.2.2.2.2.2))) else none) | _ => none) | none => none) | none => none) else none) | false => (ke (x.1, x.2.1, x.2.2.1, x.2.2.2.1, x.2.2.2.2.1, x.2.2.2.2.2.1, x.2.2.2.2.2.2.1, x.2.2.2.2.2.2.2.1, x.2.2.2.2.2.2.2.2.1, x.2.2.2.2.2.2.2.2.2)))
noncomputable abbrev F23_d14 (N : Nat) (x : (List (List AV)) × Int × Int × Int × Int × Int × Int × Int × Int × Int) : Option (((List (List AV)) × Int × Int × Int × Int × Int × Int × Int × Int × Int)) := (F23_l14 N).L N x
noncomputable def F23_s (N : Nat) : FSpec where
  X := (List (List AV)) × Int × Int × Int × Int × Int × Int × Int
  Y := Int × Int
  ash := [[some 1], [none, none, none, none, none, none, none]]
  bsh := []
  S := ⟨[[none], [none]], [], [], [], []⟩
  bm := false
  pat := fun a b => match a, b with
    | [(AV.list 1 a0 none), (AV.agg [(AV.v (.int .i64 a1)), (AV.v (.int .i64 a2)), (AV.v (.int .i64 a3)), (AV.v (.int .i64 a4)), (AV.v (.int .i64 a5)), (AV.v (.int .i64 a6)), (AV.v (.int .i64 a7))])], [] => some (a0, a1, a2, a3, a4, a5, a6, a7)
    | _, _ => none
  args := fun x => [(AV.list 1 x.1 none), (AV.agg [(AV.v (.int .i64 x.2.1)), (AV.v (.int .i64 x.2.2.1)), (AV.v (.int .i64 x.2.2.2.1)), (AV.v (.int .i64 x.2.2.2.2.1)), (AV.v (.int .i64 x.2.2.2.2.2.1)), (AV.v (.int .i64 x.2.2.2.2.2.2.1)), (AV.v (.int .i64 x.2.2.2.2.2.2.2))])]
  bs := fun x => []
  ret := fun y => ⟨(AV.tup [(AV.v (.int .i64 y.1)), (AV.v (.int .i64 y.2))]), [], none, [], [], []⟩
  t := fun x α k => (match F26_d N x.1 with | some y1 => (match (!y1) with | true => (k (0, 1)) | false => (match F8_d N (x.2.1, x.2.2.1, x.2.2.2.1) with | some y2 => (match (!y2.2) with | true => (k (0, 2)) | false => (match F34_d N (x.2.2.2.2.1, 0, 23) with | some y3 => (match (!y3) with | true => (k (0, 2)) | false => (match F34_d N (x.2.2.2.2.2.1, 0, 59) with | some y4 => (match (!y4) with | true => (k (0, 2)) | false => (match F34_d N (x.2.2.2.2.2.2.1, 0, 60) with | some y5 => (match (!y5) with | true => (k (0, 2)) | false => (match F34_d N (x.2.2.2.2.2.2.2, 0, 999999) with | some y6 => (match (!y6) with | true => (k (0, 2)) | false => (match F23_d14 N (x.1, (i64 ((i64 ((i64 ((i64 (y2.1 * 86400)) + (i64 (x.2.2.2.2.1 * 3600)))) + (i64 (x.2.2.2.2.2.1 * 60)))) + x.2.2.2.2.2.2.1)), 0, x.2.1, x.2.2.1, x.2.2.2.1, x.2.2.2.2.1, x.2.2.2.2.2.1, x.2.2.2.2.2.2.1, x.2.2.2.2.2.2.2) with | some y15 => (match (y15.2.2.2.2.2.2.2.2.1 == 60) with | true => (match (y15.2.2.1 == 0) with | true => (k (0, 6)) | false => (if 0 ≤ (i64 (y15.2.2.1 - 1)) then (match y15.1[(i64 (y15.2.2.1 - 1)).toNat]? with | some c16 => (match c16[0]? with | some x17 => (match x17 with | .v (.int q19 n18) => (if q19 = .i64 then (match ((i64 (n18 - (i64 (y15.2.2.1 - 1)))) != y15.2.1) with | true => (k (0, 6)) | false => (match (decide ((i64 ((i64 ((i64 (y15.2.1 + (i64 (y15.2.2.1 - 1)))) * 1000000)) + y15.2.2.2.2.2.2.2.2.2)) > 9007199254740992)) with | true => (k (0, 2)) | false => (k ((i64 ((i64 ((i64 (y15.2.1 + (i64 (y15.2.2.1 - 1)))) * 1000000)) + y15.2.2.2.2.2.2.2.2.2)), 0)))) else none) | _ => none) | none => none) | none => none) else none)) | false => (match (decide ((i64 ((i64 ((i64 (y15.2.1 + y15.2.2.1)) * 1000000)) + y15.2.2.2.2.2.2.2.2.2)) > 9007199254740992)) with | true => (k (0, 2)) | false => (k ((i64 ((i64 ((i64 (y15.2.1 + y15.2.2.1)) * 1000000)) + y15.2.2.2.2.2.2.2.2.2)), 0)))) | none => none)) | none => none)) | none => none)) | none => none)) | none => none)) | none => none)) | none => none)
noncomputable abbrev F23_d (N : Nat) (x : (List (List AV)) × Int × Int × Int × Int × Int × Int × Int) : Option (Int × Int) := (F23_s N).d x
theorem F23_par14 (N : Nat) : Par (F23_l14 N).b := by
  intro x α β kn ke kn' ke' r r' h h1 h2
  revert h
  dsimp only [F23_l14]
  (repeat' (first | (with_reducible refine par_ite ?_ ?_) | (with_reducible refine par_both ?_ ?_) | split)) <;> intro h <;> first | exact h1 _ h | exact h2 _ h | (cases h; done)
theorem F23_body14 (N : Nat) (x : (F23_l14 N).X) (α : Type) (kn : AS → Option α) (ke : Out → Option α) : around (tabOf Tryd.prog) (F23_g N) F23_an (lam N [(14, F23_l14 N)]) 14 (bodyOf (nthLoop 14 (Tryd.f23.body.getD .skip))) ((F23_l14 N).st x) kn ke = (F23_l14 N).b x α (fun x' => kn ((F23_l14 N).st x')) (fun y => (F23_l14 N).sp y α ke) := by kernel_rfl
theorem F23_pat14 (N : Nat) (s : AS) (x : (F23_l14 N).X) (hc : s = canon (F23_an 14).1 s) (h : (F23_l14 N).p s = some x) : s = (F23_l14 N).st x := by
  dsimp only [F23_l14] at h
  split at h
  · cases h
    exact canon_mk hc ‹_› ‹_› rfl rfl rfl ⟨‹_›, ‹_›, ‹_›, ‹_›, trivial⟩ ⟨‹_›, trivial⟩
  · cases h
theorem F23_loop14 (N : Nat) : ∀ s o, s = canon (F23_an 14).1 s → (lam N [(14, F23_l14 N)]).v 14 s = some o → LoopSem Tryd.prog (nthLoop 14 (Tryd.f23.body.getD .skip)) s o :=
  loop_ok (tabOf_ok Tryd.prog) (gam_ok _) mixed F23_an N [(14, F23_l14 N)] 14 (bodyOf (nthLoop 14 (Tryd.f23.body.getD .skip))) (nthLoop 14 (Tryd.f23.body.getD .skip)) (by kernel_rfl) (by
    have e : actOf F23_an (bodyOf (nthLoop 14 (Tryd.f23.body.getD .skip))) (14 + 1) = [] := by kernel_rfl
    rw [e]
    intro p hp
    cases hp) (F23_l14 N) rfl (fun s x hc h => F23_pat14 N s x hc h) (fun x => rfl) (fun x α kn ke => (F23_body14 N x α kn ke).trans (congrArg ((F23_l14 N).b x α _) (funext fun y => (F23_l14 N).spe y α ke))) (F23_par14 N)
theorem F23_parF (N : Nat) : ParF (F23_s N).t := by
  intro x α β k k' r r' h h1
  revert h
  dsimp only [F23_s]
  (repeat' (first | (with_reducible refine par_ite ?_ ?_) | (with_reducible refine par_both ?_ ?_) | split)) <;> intro h <;> first | exact h1 _ h | (cases h; done)
theorem F23_text (N : Nat) (x : (F23_s N).X) : acall (tabOf Tryd.prog) (F23_g N) F23_an (lam N [(14, F23_l14 N)]) Tryd.f23 (F23_s N).S ((F23_s N).args x) ((F23_s N).bs x) = (F23_s N).t x Ret (fun y => some ((F23_s N).ret y)) := by kernel_rfl
theorem F23_pat (N : Nat) (a : List AV) (b : List (List AV)) (x : (F23_s N).X) (h : (F23_s N).pat a b = some x) : a = (F23_s N).args x ∧ b = (F23_s N).bs x := by
  dsimp only [F23_s] at h
  split at h
  · cases h; exact ⟨rfl, rfl⟩
  · cases h
noncomputable def F23_e (N : Nat) : Ent Tryd.prog := entOf (tabOf_ok Tryd.prog) (gam_ok _) mixed 23 Tryd.f23 Tryd.func23 rfl F23_an (lam N [(14, F23_l14 N)]) (by
    have e : actOf F23_an (Tryd.f23.body.getD .skip) 0 = [(14, nthLoop 14 (Tryd.f23.body.getD .skip))] := by kernel_rfl
    rw [e]
    intro p hp
    rcases List.mem_cons.1 hp with rfl | hp
    · exact F23_loop14 N
    cases hp) (F23_s N) (fun _ => ⟨rfl, rfl⟩) (F23_text N) (F23_pat N) (F23_parF N)
/-! ### seismonet/seismonetlaw01.sane (function 12) -/
def F12_an : Nat → Keep × Keep := anL []
noncomputable def F12_g (N : Nat) : GamK := gam (P := Tryd.prog) [F18_e N, F23_e N, F16_e N]
noncomputable def F12_s (N : Nat) : FSpec where
  X := Unit
  Y := Bool
  ash := []
  bsh := []
  S := ⟨[[none]], [], [], [], []⟩
  bm := false
  pat := fun a b => match a, b with
    | [], [] => some ()
    | _, _ => none
  args := fun x => []
  bs := fun x => []
  ret := fun y => ⟨(AV.v (.bool y)), [], none, [], [], []⟩
  t := fun x α k => (match F18_d N ([[(AV.v (.int .i64 86400))]], 86400000000) with | some y1 => (match F23_d N ([[(AV.v (.int .i64 86400))]], 1970, 1, 2, 0, 0, 0, 0) with | some y2 => (match F16_d N ([[(AV.v (.int .i64 86400))]], 86400000007) with | some y3 => (match (y1.2.2.2.2.2.2.2 == 0) with | true => (match (y2.2 == 0) with | true => (match (y3.2 == 0) with | true => (match ((y1.1 == 1970) && ((y1.2.1 == 1) && ((y1.2.2.1 == 1) && ((y1.2.2.2.1 == 23) && ((y1.2.2.2.2.1 == 59) && ((y1.2.2.2.2.2.1 == 60) && ((y1.2.2.2.2.2.2.1 == 0) && true))))))) with | true => (match (y2.1 == 86401000000) with | true => (k (y3.1.toList == (⟨#[49, 57, 55, 48, 45, 48, 49, 45, 48, 49, 84, 50, 51, 58, 53, 57, 58, 54, 48, 46, 48, 48, 48, 48, 48, 55, 90]⟩ : ByteArray).toList)) | false => (k false)) | false => (k false)) | false => (k false)) | false => (k false)) | false => (k false)) | none => none) | none => none) | none => none)
noncomputable abbrev F12_d (N : Nat) (x : Unit) : Option (Bool) := (F12_s N).d x
theorem F12_parF (N : Nat) : ParF (F12_s N).t := by
  intro x α β k k' r r' h h1
  revert h
  dsimp only [F12_s]
  (repeat' (first | (with_reducible refine par_ite ?_ ?_) | (with_reducible refine par_both ?_ ?_) | split)) <;> intro h <;> first | exact h1 _ h | (cases h; done)
theorem F12_text (N : Nat) (x : (F12_s N).X) : acall (tabOf Tryd.prog) (F12_g N) F12_an (lam N []) Tryd.f12 (F12_s N).S ((F12_s N).args x) ((F12_s N).bs x) = (F12_s N).t x Ret (fun y => some ((F12_s N).ret y)) := by kernel_rfl
theorem F12_pat (N : Nat) (a : List AV) (b : List (List AV)) (x : (F12_s N).X) (h : (F12_s N).pat a b = some x) : a = (F12_s N).args x ∧ b = (F12_s N).bs x := by
  dsimp only [F12_s] at h
  split at h
  · cases h; exact ⟨rfl, rfl⟩
  · cases h
noncomputable def F12_e (N : Nat) : Ent Tryd.prog := entOf (tabOf_ok Tryd.prog) (gam_ok _) mixed 12 Tryd.f12 Tryd.func12 rfl F12_an (lam N []) (by
    have e : actOf F12_an (Tryd.f12.body.getD .skip) 0 = [] := by kernel_rfl
    rw [e]
    intro p hp
    cases hp) (F12_s N) (fun _ => ⟨rfl, rfl⟩) (F12_text N) (F12_pat N) (F12_parF N)
end Go.Proofs.YtaanjciokdpkmaaDoor
