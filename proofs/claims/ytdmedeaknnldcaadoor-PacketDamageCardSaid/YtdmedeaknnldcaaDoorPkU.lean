/- Functions without memory. (written by sx.py) -/
import Derived.Test.YtdmedeaknnldcaaDoorPkGiv
namespace Go.Proofs.YtdmedeaknnldcaaDoor
open Go.RowKit
set_option linter.unusedVariables false
set_option linter.unusedSimpArgs false
set_option linter.unnecessarySimpa false
set_option maxRecDepth 4000
/-! ### seismonet/rate.in (function 47) -/
def F47_an : Nat → Keep × Keep := anL []
noncomputable def F47_g (N : Nat) : GamK := gam (P := Tryd.prog) []
noncomputable def F47_s (N : Nat) : FSpec where
  X := Int × Int × Int
  Y := Bool
  ash := [[none], [none], [none]]
  bsh := []
  S := ⟨[[none]], [], [], [], []⟩
  bm := false
  pat := fun a b => match a, b with
    | [(AV.v (.int .i64 a0)), (AV.v (.int .i64 a1)), (AV.v (.int .i64 a2))], [] => some (a0, a1, a2)
    | _, _ => none
  args := fun x => [(AV.v (.int .i64 x.1)), (AV.v (.int .i64 x.2.1)), (AV.v (.int .i64 x.2.2))]
  bs := fun x => []
  ret := fun y => ⟨(AV.v (.bool y)), [], none, [], [], []⟩
  t := fun x α k => (match (decide (x.1 ≥ x.2.1)) with | true => (k (decide (x.1 ≤ x.2.2))) | false => (k false))
noncomputable abbrev F47_d (N : Nat) (x : Int × Int × Int) : Option (Bool) := (F47_s N).d x
theorem F47_parF (N : Nat) : ParF (F47_s N).t := by
  intro x α β k k' r r' h h1
  revert h
  dsimp only [F47_s]
  (repeat' (first | (with_reducible refine par_ite ?_ ?_) | (with_reducible refine par_both ?_ ?_) | split)) <;> intro h <;> first | exact h1 _ h | (cases h; done)
theorem F47_text (N : Nat) (x : (F47_s N).X) : acall (tabOf Tryd.prog) (F47_g N) F47_an (lam N []) Tryd.f47 (F47_s N).S ((F47_s N).args x) ((F47_s N).bs x) = (F47_s N).t x Ret (fun y => some ((F47_s N).ret y)) := by kernel_rfl
theorem F47_pat (N : Nat) (a : List AV) (b : List (List AV)) (x : (F47_s N).X) (h : (F47_s N).pat a b = some x) : a = (F47_s N).args x ∧ b = (F47_s N).bs x := by
  dsimp only [F47_s] at h
  split at h
  · cases h; exact ⟨rfl, rfl⟩
  · cases h
noncomputable def F47_e (N : Nat) : Ent Tryd.prog := entOf (tabOf_ok Tryd.prog) (gam_ok _) mixed 47 Tryd.f47 Tryd.func47 rfl F47_an (lam N []) (by
    have e : actOf F47_an (Tryd.f47.body.getD .skip) 0 = [] := by kernel_rfl
    rw [e]
    intro p hp
    cases hp) (F47_s N) (fun _ => ⟨rfl, rfl⟩) (F47_text N) (F47_pat N) (F47_parF N)
/-! ### seismonet/rate.gcd (function 48) -/
def F48_an : Nat → Keep × Keep := anL [(3, ⟨[0, 1], [], [], [], [], [], [], [], false⟩, ⟨[0], [], [], [], [], [], [], [], false⟩)]
noncomputable def F48_g (N : Nat) : GamK := gam (P := Tryd.prog) []
noncomputable def F48_l3 (N : Nat) : LSpec where
  X := Int × Int
  Y := (Int)
  p := fun s => match s.env.length, s.nin, s.at 0, s.at 1 with
    | 12, 0, (AV.v (.int .i64 a0)), (AV.v (.int .i64 a1)) => some (a0, a1)
    | _, _, _, _ => none
  st := fun x => mkS 12 [(0, (AV.v (.int .i64 x.1))), (1, (AV.v (.int .i64 x.2)))] [] (F48_an 3).1.toks 0
  out := fun y => (.exit 0, mkS 12 [(0, (AV.v (.int .i64 y)))] [] (F48_an 3).2.toks 0)
  sp := fun y α k => k (.exit 0, mkS 12 [(0, (AV.v (.int .i64 y)))] [] (F48_an 3).2.toks 0)
  spe := fun y α k => rfl
  b := fun x α kn ke => (match (x.2 != 0) with | true => (if x.2 = 0 then none else (kn (x.2, (x.1.tmod x.2)))) | false => (ke x.1))
noncomputable abbrev F48_d3 (N : Nat) (x : Int × Int) : Option ((Int)) := (F48_l3 N).L N x
noncomputable def F48_s (N : Nat) : FSpec where
  X := Int × Int
  Y := Int
  ash := [[none], [none]]
  bsh := []
  S := ⟨[[none]], [], [], [], []⟩
  bm := false
  pat := fun a b => match a, b with
    | [(AV.v (.int .i64 a0)), (AV.v (.int .i64 a1))], [] => some (a0, a1)
    | _, _ => none
  args := fun x => [(AV.v (.int .i64 x.1)), (AV.v (.int .i64 x.2))]
  bs := fun x => []
  ret := fun y => ⟨(AV.v (.int .i64 y)), [], none, [], [], []⟩
  t := fun x α k => (match F48_d3 N (x.1, x.2) with | some y1 => (k y1) | none => none)
noncomputable abbrev F48_d (N : Nat) (x : Int × Int) : Option (Int) := (F48_s N).d x
theorem F48_par3 (N : Nat) : Par (F48_l3 N).b := by
  intro x α β kn ke kn' ke' r r' h h1 h2
  revert h
  dsimp only [F48_l3]
  (repeat' (first | (with_reducible refine par_ite ?_ ?_) | (with_reducible refine par_both ?_ ?_) | split)) <;> intro h <;> first | exact h1 _ h | exact h2 _ h | (cases h; done)
theorem F48_body3 (N : Nat) (x : (F48_l3 N).X) (α : Type) (kn : AS → Option α) (ke : Out → Option α) : around (tabOf Tryd.prog) (F48_g N) F48_an (lam N [(3, F48_l3 N)]) 3 (bodyOf (nthLoop 3 (Tryd.f48.body.getD .skip))) ((F48_l3 N).st x) kn ke = (F48_l3 N).b x α (fun x' => kn ((F48_l3 N).st x')) (fun y => (F48_l3 N).sp y α ke) := by kernel_rfl
theorem F48_pat3 (N : Nat) (s : AS) (x : (F48_l3 N).X) (hc : s = canon (F48_an 3).1 s) (h : (F48_l3 N).p s = some x) : s = (F48_l3 N).st x := by
  dsimp only [F48_l3] at h
  split at h
  · cases h
    exact canon_mk hc ‹_› ‹_› rfl rfl rfl ⟨‹_›, ‹_›, trivial⟩ trivial
  · cases h
theorem F48_loop3 (N : Nat) : ∀ s o, s = canon (F48_an 3).1 s → (lam N [(3, F48_l3 N)]).v 3 s = some o → LoopSem Tryd.prog (nthLoop 3 (Tryd.f48.body.getD .skip)) s o :=
  loop_ok (tabOf_ok Tryd.prog) (gam_ok _) mixed F48_an N [(3, F48_l3 N)] 3 (bodyOf (nthLoop 3 (Tryd.f48.body.getD .skip))) (nthLoop 3 (Tryd.f48.body.getD .skip)) (by kernel_rfl) (by
    have e : actOf F48_an (bodyOf (nthLoop 3 (Tryd.f48.body.getD .skip))) (3 + 1) = [] := by kernel_rfl
    rw [e]
    intro p hp
    cases hp) (F48_l3 N) rfl (fun s x hc h => F48_pat3 N s x hc h) (fun x => rfl) (fun x α kn ke => (F48_body3 N x α kn ke).trans (congrArg ((F48_l3 N).b x α _) (funext fun y => (F48_l3 N).spe y α ke))) (F48_par3 N)
theorem F48_parF (N : Nat) : ParF (F48_s N).t := by
  intro x α β k k' r r' h h1
  revert h
  dsimp only [F48_s]
  (repeat' (first | (with_reducible refine par_ite ?_ ?_) | (with_reducible refine par_both ?_ ?_) | split)) <;> intro h <;> first | exact h1 _ h | (cases h; done)
theorem F48_text (N : Nat) (x : (F48_s N).X) : acall (tabOf Tryd.prog) (F48_g N) F48_an (lam N [(3, F48_l3 N)]) Tryd.f48 (F48_s N).S ((F48_s N).args x) ((F48_s N).bs x) = (F48_s N).t x Ret (fun y => some ((F48_s N).ret y)) := by kernel_rfl
theorem F48_pat (N : Nat) (a : List AV) (b : List (List AV)) (x : (F48_s N).X) (h : (F48_s N).pat a b = some x) : a = (F48_s N).args x ∧ b = (F48_s N).bs x := by
  dsimp only [F48_s] at h
  split at h
  · cases h; exact ⟨rfl, rfl⟩
  · cases h
noncomputable def F48_e (N : Nat) : Ent Tryd.prog := entOf (tabOf_ok Tryd.prog) (gam_ok _) mixed 48 Tryd.f48 Tryd.func48 rfl F48_an (lam N [(3, F48_l3 N)]) (by
    have e : actOf F48_an (Tryd.f48.body.getD .skip) 0 = [(3, nthLoop 3 (Tryd.f48.body.getD .skip))] := by kernel_rfl
    rw [e]
    intro p hp
    rcases List.mem_cons.1 hp with rfl | hp
    · exact F48_loop3 N
    cases hp) (F48_s N) (fun _ => ⟨rfl, rfl⟩) (F48_text N) (F48_pat N) (F48_parF N)
/-! ### seismonet/rate.Valid (function 32) -/
def F32_an : Nat → Keep × Keep := anL []
noncomputable def F32_g (N : Nat) : GamK := gam (P := Tryd.prog) [F47_e N, F48_e N]
noncomputable def F32_s (N : Nat) : FSpec where
  X := Int × Int
  Y := Bool
  ash := [[none, none]]
  bsh := []
  S := ⟨[[none]], [], [], [], []⟩
  bm := false
  pat := fun a b => match a, b with
    | [(AV.agg [(AV.v (.int .i64 a0)), (AV.v (.int .i64 a1))])], [] => some (a0, a1)
    | _, _ => none
  args := fun x => [(AV.agg [(AV.v (.int .i64 x.1)), (AV.v (.int .i64 x.2))])]
  bs := fun x => []
  ret := fun y => ⟨(AV.v (.bool y)), [], none, [], [], []⟩
  t := fun x α k => (match F47_d N (x.1, 1, 4096) with | some y1 => (match y1 with | true => (match F47_d N (x.2, 1, 4096) with | some y2 => (match y2 with | true => (match F48_d N (x.1, x.2) with | some y3 => (k (y3 == 1)) | none => none) | false => (k false)) | none => none) | false => (k false)) | none => none)
noncomputable abbrev F32_d (N : Nat) (x : Int × Int) : Option (Bool) := (F32_s N).d x
theorem F32_parF (N : Nat) : ParF (F32_s N).t := by
  intro x α β k k' r r' h h1
  revert h
  dsimp only [F32_s]
  (repeat' (first | (with_reducible refine par_ite ?_ ?_) | (with_reducible refine par_both ?_ ?_) | split)) <;> intro h <;> first | exact h1 _ h | (cases h; done)
theorem F32_text (N : Nat) (x : (F32_s N).X) : acall (tabOf Tryd.prog) (F32_g N) F32_an (lam N []) Tryd.f32 (F32_s N).S ((F32_s N).args x) ((F32_s N).bs x) = (F32_s N).t x Ret (fun y => some ((F32_s N).ret y)) := by kernel_rfl
theorem F32_pat (N : Nat) (a : List AV) (b : List (List AV)) (x : (F32_s N).X) (h : (F32_s N).pat a b = some x) : a = (F32_s N).args x ∧ b = (F32_s N).bs x := by
  dsimp only [F32_s] at h
  split at h
  · cases h; exact ⟨rfl, rfl⟩
  · cases h
noncomputable def F32_e (N : Nat) : Ent Tryd.prog := entOf (tabOf_ok Tryd.prog) (gam_ok _) mixed 32 Tryd.f32 Tryd.func32 rfl F32_an (lam N []) (by
    have e : actOf F32_an (Tryd.f32.body.getD .skip) 0 = [] := by kernel_rfl
    rw [e]
    intro p hp
    cases hp) (F32_s N) (fun _ => ⟨rfl, rfl⟩) (F32_text N) (F32_pat N) (F32_parF N)
/-! ### seismonet/packet.in (function 28) -/
def F28_an : Nat → Keep × Keep := anL []
noncomputable def F28_g (N : Nat) : GamK := gam (P := Tryd.prog) []
noncomputable def F28_s (N : Nat) : FSpec where
  X := Int × Int × Int
  Y := Bool
  ash := [[none], [none], [none]]
  bsh := []
  S := ⟨[[none]], [], [], [], []⟩
  bm := false
  pat := fun a b => match a, b with
    | [(AV.v (.int .i64 a0)), (AV.v (.int .i64 a1)), (AV.v (.int .i64 a2))], [] => some (a0, a1, a2)
    | _, _ => none
  args := fun x => [(AV.v (.int .i64 x.1)), (AV.v (.int .i64 x.2.1)), (AV.v (.int .i64 x.2.2))]
  bs := fun x => []
  ret := fun y => ⟨(AV.v (.bool y)), [], none, [], [], []⟩
  t := fun x α k => (match (decide (x.1 ≥ x.2.1)) with | true => (k (decide (x.1 ≤ x.2.2))) | false => (k false))
noncomputable abbrev F28_d (N : Nat) (x : Int × Int × Int) : Option (Bool) := (F28_s N).d x
theorem F28_parF (N : Nat) : ParF (F28_s N).t := by
  intro x α β k k' r r' h h1
  revert h
  dsimp only [F28_s]
  (repeat' (first | (with_reducible refine par_ite ?_ ?_) | (with_reducible refine par_both ?_ ?_) | split)) <;> intro h <;> first | exact h1 _ h | (cases h; done)
theorem F28_text (N : Nat) (x : (F28_s N).X) : acall (tabOf Tryd.prog) (F28_g N) F28_an (lam N []) Tryd.f28 (F28_s N).S ((F28_s N).args x) ((F28_s N).bs x) = (F28_s N).t x Ret (fun y => some ((F28_s N).ret y)) := by kernel_rfl
theorem F28_pat (N : Nat) (a : List AV) (b : List (List AV)) (x : (F28_s N).X) (h : (F28_s N).pat a b = some x) : a = (F28_s N).args x ∧ b = (F28_s N).bs x := by
  dsimp only [F28_s] at h
  split at h
  · cases h; exact ⟨rfl, rfl⟩
  · cases h
noncomputable def F28_e (N : Nat) : Ent Tryd.prog := entOf (tabOf_ok Tryd.prog) (gam_ok _) mixed 28 Tryd.f28 Tryd.func28 rfl F28_an (lam N []) (by
    have e : actOf F28_an (Tryd.f28.body.getD .skip) 0 = [] := by kernel_rfl
    rw [e]
    intro p hp
    cases hp) (F28_s N) (fun _ => ⟨rfl, rfl⟩) (F28_text N) (F28_pat N) (F28_parF N)
/-! ### seismonet/packet.Valid (function 17) -/
def F17_an : Nat → Keep × Keep := anL []
noncomputable def F17_g (N : Nat) : GamK := gam (P := Tryd.prog) [F31_e N, F32_e N, F28_e N, F23_e N]
noncomputable def F17_s (N : Nat) : FSpec where
  X := ByteArray × ByteArray × ByteArray × ByteArray × Int × Int × Int × Int × Int × Int × Int × (List (List AV))
  Y := Bool
  ash := [[none, none, none, none, none, none, none, none, none, none, none, some 1]]
  bsh := []
  S := ⟨[[none]], [], [], [], []⟩
  bm := false
  pat := fun a b => match a, b with
    | [(AV.agg [(AV.v (.string a0)), (AV.v (.string a1)), (AV.v (.string a2)), (AV.v (.string a3)), (AV.v (.int .i64 a4)), (AV.v (.int .i64 a5)), (AV.v (.int .i64 a6)), (AV.v (.int .i64 a7)), (AV.v (.int .i64 a8)), (AV.v (.int .i64 a9)), (AV.v (.int .i64 a10)), (AV.list 1 a11 none)])], [] => some (a0, a1, a2, a3, a4, a5, a6, a7, a8, a9, a10, a11)
    | _, _ => none
  args := fun x => [(AV.agg [(AV.v (.string x.1)), (AV.v (.string x.2.1)), (AV.v (.string x.2.2.1)), (AV.v (.string x.2.2.2.1)), (AV.v (.int .i64 x.2.2.2.2.1)), (AV.v (.int .i64 x.2.2.2.2.2.1)), (AV.v (.int .i64 x.2.2.2.2.2.2.1)), (AV.v (.int .i64 x.2.2.2.2.2.2.2.1)), (AV.v (.int .i64 x.2.2.2.2.2.2.2.2.1)), (AV.v (.int .i64 x.2.2.2.2.2.2.2.2.2.1)), (AV.v (.int .i64 x.2.2.2.2.2.2.2.2.2.2.1)), (AV.list 1 x.2.2.2.2.2.2.2.2.2.2.2 none)])]
  bs := fun x => []
  ret := fun y => ⟨(AV.v (.bool y)), [], none, [], [], []⟩
  t := fun x α k => (match F31_d N (x.1, x.2.1, x.2.2.1, x.2.2.2.1) with | some y1 => (match (!y1) with | true => (k false) | false => (match F32_d N (x.2.2.2.2.2.2.2.1, x.2.2.2.2.2.2.2.2.1) with | some y2 => (match (!y2) with | true => (k false) | false => (match F28_d N (x.2.2.2.2.1, 0, 65535) with | some y3 => (match (!y3) with | true => (k false) | false => (match F28_d N (x.2.2.2.2.2.1, 0, 1073741824) with | some y4 => (match (!y4) with | true => (k false) | false => (match F28_d N (x.2.2.2.2.2.2.1, 0, 9007199254740992) with | some y5 => (match (!y5) with | true => (k false) | false => (match F28_d N (x.2.2.2.2.2.2.2.2.2.1, 0, 2) with | some y6 => (match (!y6) with | true => (k false) | false => (match F28_d N (x.2.2.2.2.2.2.2.2.2.2.1, 0, 1099511627776) with | some y7 => (match (!y7) with | true => (k false) | false => (match (decide ((x.2.2.2.2.2.2.2.2.2.2.2.length : Int) > 420)) with | true => (k false) | false => (match F23_d N x.2.2.2.2.2.2.2.2.2.2.2 with | some y8 => (k (y8.2 == 0)) | none => none))) | none => none)) | none => none)) | none => none)) | none => none)) | none => none)) | none => none)) | none => none)
noncomputable abbrev F17_d (N : Nat) (x : ByteArray × ByteArray × ByteArray × ByteArray × Int × Int × Int × Int × Int × Int × Int × (List (List AV))) : Option (Bool) := (F17_s N).d x
theorem F17_parF (N : Nat) : ParF (F17_s N).t := by
  intro x α β k k' r r' h h1
  revert h
  dsimp only [F17_s]
  (repeat' (first | (with_reducible refine par_ite ?_ ?_) | (with_reducible refine par_both ?_ ?_) | split)) <;> intro h <;> first | exact h1 _ h | (cases h; done)
theorem F17_text (N : Nat) (x : (F17_s N).X) : acall (tabOf Tryd.prog) (F17_g N) F17_an (lam N []) Tryd.f17 (F17_s N).S ((F17_s N).args x) ((F17_s N).bs x) = (F17_s N).t x Ret (fun y => some ((F17_s N).ret y)) := by kernel_rfl
theorem F17_pat (N : Nat) (a : List AV) (b : List (List AV)) (x : (F17_s N).X) (h : (F17_s N).pat a b = some x) : a = (F17_s N).args x ∧ b = (F17_s N).bs x := by
  dsimp only [F17_s] at h
  split at h
  · cases h; exact ⟨rfl, rfl⟩
  · cases h
noncomputable def F17_e (N : Nat) : Ent Tryd.prog := entOf (tabOf_ok Tryd.prog) (gam_ok _) mixed 17 Tryd.f17 Tryd.func17 rfl F17_an (lam N []) (by
    have e : actOf F17_an (Tryd.f17.body.getD .skip) 0 = [] := by kernel_rfl
    rw [e]
    intro p hp
    cases hp) (F17_s N) (fun _ => ⟨rfl, rfl⟩) (F17_text N) (F17_pat N) (F17_parF N)
/-! ### seismonet/packet.Encode (function 10) -/
def F10_an : Nat → Keep × Keep := anL [(11, ⟨[4, 6, 8, 63, 64], [], [], [(62, 2)], [], [], [], [], false⟩, ⟨[4, 6, 8], [], [], [], [], [], [], [], false⟩)]
noncomputable def F10_g (N : Nat) : GamK := gam (P := Tryd.prog) [F17_e N, F22_e N, F23_e N, F24_e N, F25_e N]
noncomputable def F10_l11 (N : Nat) : LSpec where
  X := (List (List AV)) × ByteArray × ByteArray × ByteArray × Int × Int
  Y := (ByteArray × ByteArray × ByteArray)
  p := fun s => match s.env.length, s.nin, s.at 62, s.at 4, s.at 6, s.at 8, s.at 63, s.at 64 with
    | 84, 0, (AV.list 2 a0 none), (AV.v (.string a1)), (AV.v (.string a2)), (AV.v (.string a3)), (AV.v (.int .i64 a4)), (AV.v (.int .i64 a5)) => some (a0, a1, a2, a3, a4, a5)
    | _, _, _, _, _, _, _, _ => none
  st := fun x => mkS 84 [(62, (AV.list 2 x.1 none)), (4, (AV.v (.string x.2.1))), (6, (AV.v (.string x.2.2.1))), (8, (AV.v (.string x.2.2.2.1))), (63, (AV.v (.int .i64 x.2.2.2.2.1))), (64, (AV.v (.int .i64 x.2.2.2.2.2)))] [] (F10_an 11).1.toks 0
  out := fun y => (.exit 0, mkS 84 [(4, (AV.v (.string y.1))), (6, (AV.v (.string y.2.1))), (8, (AV.v (.string y.2.2)))] [] (F10_an 11).2.toks 0)
  sp := fun y α k => k (.exit 0, mkS 84 [(4, (AV.v (.string y.1))), (6, (AV.v (.string y.2.1))), (8, (AV.v (.string y.2.2)))] [] (F10_an 11).2.toks 0)
  spe := fun y α k => rfl
  b := fun x α kn ke => (match (decide (x.2.2.2.2.2 < x.2.2.2.2.1)) with | true => (if 0 ≤ x.2.2.2.2.2 then (match x.1[x.2.2.2.2.2.toNat]? with | some c4 => (match c4[0]? with | some x5 => (match x5 with | .v (.int q7 n6) => (if q7 = .i64 then (match c4[1]? with | some x8 => (match x8 with | .v (.int q10 n9) => (if q10 = .i64 then (match F24_d N (x.2.2.2.1, n6, n9) with | some y11 => (kn (x.1, x.2.1, x.2.2.1, y11.1, x.2.2.2.2.1, (i64 (x.2.2.2.2.2 + 1)))) | none => none) else none) | _ => none) | none => none) else none) | _ => none) | none => none) | none => none) else none) | false => (ke (x.2.1, x.2.2.1, x.2.2.2.1)))
noncomputable abbrev F10_d11 (N : Nat) (x : (List (List AV)) × ByteArray × ByteArray × ByteArray × Int × Int) : Option ((ByteArray × ByteArray × ByteArray)) := (F10_l11 N).L N x
noncomputable def F10_s (N : Nat) : FSpec where
  X := ByteArray × ByteArray × ByteArray × ByteArray × Int × Int × Int × Int × Int × Int × Int × (List (List AV))
  Y := ByteArray × Int
  ash := [[none, none, none, none, none, none, none, none, none, none, none, some 1]]
  bsh := []
  S := ⟨[[none], [none]], [], [], [], []⟩
  bm := false
  pat := fun a b => match a, b with
    | [(AV.agg [(AV.v (.string a0)), (AV.v (.string a1)), (AV.v (.string a2)), (AV.v (.string a3)), (AV.v (.int .i64 a4)), (AV.v (.int .i64 a5)), (AV.v (.int .i64 a6)), (AV.v (.int .i64 a7)), (AV.v (.int .i64 a8)), (AV.v (.int .i64 a9)), (AV.v (.int .i64 a10)), (AV.list 1 a11 none)])], [] => some (a0, a1, a2, a3, a4, a5, a6, a7, a8, a9, a10, a11)
    | _, _ => none
  args := fun x => [(AV.agg [(AV.v (.string x.1)), (AV.v (.string x.2.1)), (AV.v (.string x.2.2.1)), (AV.v (.string x.2.2.2.1)), (AV.v (.int .i64 x.2.2.2.2.1)), (AV.v (.int .i64 x.2.2.2.2.2.1)), (AV.v (.int .i64 x.2.2.2.2.2.2.1)), (AV.v (.int .i64 x.2.2.2.2.2.2.2.1)), (AV.v (.int .i64 x.2.2.2.2.2.2.2.2.1)), (AV.v (.int .i64 x.2.2.2.2.2.2.2.2.2.1)), (AV.v (.int .i64 x.2.2.2.2.2.2.2.2.2.2.1)), (AV.list 1 x.2.2.2.2.2.2.2.2.2.2.2 none)])]
  bs := fun x => []
  ret := fun y => ⟨(AV.tup [(AV.v (.string y.1)), (AV.v (.int .i64 y.2))]), [], none, [], [], []⟩
  t := fun x α k => (match F17_d N (x.1, x.2.1, x.2.2.1, x.2.2.2.1, x.2.2.2.2.1, x.2.2.2.2.2.1, x.2.2.2.2.2.2.1, x.2.2.2.2.2.2.2.1, x.2.2.2.2.2.2.2.2.1, x.2.2.2.2.2.2.2.2.2.1, x.2.2.2.2.2.2.2.2.2.2.1, x.2.2.2.2.2.2.2.2.2.2.2) with | some y1 => (match (!y1) with | true => (k ((⟨#[]⟩ : ByteArray), 1)) | false => (match F22_d N (x.1, x.2.1, x.2.2.1, x.2.2.2.1) with | some y2 => (match F23_d N x.2.2.2.2.2.2.2.2.2.2.2 with | some y3 => (match F10_d11 N ([[(AV.v (.int .i64 x.2.2.2.2.2.2.2.2.2.1)), (AV.v (.int .i64 1))], [(AV.v (.int .i64 x.2.2.2.2.1)), (AV.v (.int .i64 2))], [(AV.v (.int .i64 x.2.2.2.2.2.1)), (AV.v (.int .i64 4))], [(AV.v (.int .i64 x.2.2.2.2.2.2.1)), (AV.v (.int .i64 7))], [(AV.v (.int .i64 x.2.2.2.2.2.2.2.1)), (AV.v (.int .i64 2))], [(AV.v (.int .i64 x.2.2.2.2.2.2.2.2.1)), (AV.v (.int .i64 2))], [(AV.v (.int .i64 x.2.2.2.2.2.2.2.2.2.2.1)), (AV.v (.int .i64 6))], [(AV.v (.int .i64 (x.2.2.2.2.2.2.2.2.2.2.2.length : Int))), (AV.v (.int .i64 2))], [(AV.v (.int .i64 (y2.1.size : Int))), (AV.v (.int .i64 1))], [(AV.v (.int .i64 (i64 ((y3.1.size : Int).tdiv 64)))), (AV.v (.int .i64 1))]], y2.1, y3.1, (⟨#[83, 78, 1]⟩ : ByteArray), ([[(AV.v (.int .i64 x.2.2.2.2.2.2.2.2.2.1)), (AV.v (.int .i64 1))], [(AV.v (.int .i64 x.2.2.2.2.1)), (AV.v (.int .i64 2))], [(AV.v (.int .i64 x.2.2.2.2.2.1)), (AV.v (.int .i64 4))], [(AV.v (.int .i64 x.2.2.2.2.2.2.1)), (AV.v (.int .i64 7))], [(AV.v (.int .i64 x.2.2.2.2.2.2.2.1)), (AV.v (.int .i64 2))], [(AV.v (.int .i64 x.2.2.2.2.2.2.2.2.1)), (AV.v (.int .i64 2))], [(AV.v (.int .i64 x.2.2.2.2.2.2.2.2.2.2.1)), (AV.v (.int .i64 6))], [(AV.v (.int .i64 (x.2.2.2.2.2.2.2.2.2.2.2.length : Int))), (AV.v (.int .i64 2))], [(AV.v (.int .i64 (y2.1.size : Int))), (AV.v (.int .i64 1))], [(AV.v (.int .i64 (i64 ((y3.1.size : Int).tdiv 64)))), (AV.v (.int .i64 1))]].length : Int), 0) with | some y12 => (if y12.2.2.size + y12.1.size ≤ 9223372036854775807 then (if (y12.2.2 ++ y12.1).size + y12.2.1.size ≤ 9223372036854775807 then (match F25_d N ((y12.2.2 ++ y12.1) ++ y12.2.1) with | some y13 => (k (y13, 0)) | none => none) else none) else none) | none => none) | none => none) | none => none)) | none => none)
noncomputable abbrev F10_d (N : Nat) (x : ByteArray × ByteArray × ByteArray × ByteArray × Int × Int × Int × Int × Int × Int × Int × (List (List AV))) : Option (ByteArray × Int) := (F10_s N).d x
theorem F10_par11 (N : Nat) : Par (F10_l11 N).b := by
  intro x α β kn ke kn' ke' r r' h h1 h2
  revert h
  dsimp only [F10_l11]
  (repeat' (first | (with_reducible refine par_ite ?_ ?_) | (with_reducible refine par_both ?_ ?_) | split)) <;> intro h <;> first | exact h1 _ h | exact h2 _ h | (cases h; done)
theorem F10_body11 (N : Nat) (x : (F10_l11 N).X) (α : Type) (kn : AS → Option α) (ke : Out → Option α) : around (tabOf Tryd.prog) (F10_g N) F10_an (lam N [(11, F10_l11 N)]) 11 (bodyOf (nthLoop 11 (Tryd.f10.body.getD .skip))) ((F10_l11 N).st x) kn ke = (F10_l11 N).b x α (fun x' => kn ((F10_l11 N).st x')) (fun y => (F10_l11 N).sp y α ke) := by kernel_rfl
theorem F10_pat11 (N : Nat) (s : AS) (x : (F10_l11 N).X) (hc : s = canon (F10_an 11).1 s) (h : (F10_l11 N).p s = some x) : s = (F10_l11 N).st x := by
  dsimp only [F10_l11] at h
  split at h
  · cases h
    exact canon_mk hc ‹_› ‹_› rfl rfl rfl ⟨‹_›, ‹_›, ‹_›, ‹_›, ‹_›, ‹_›, trivial⟩ trivial
  · cases h
theorem F10_loop11 (N : Nat) : ∀ s o, s = canon (F10_an 11).1 s → (lam N [(11, F10_l11 N)]).v 11 s = some o → LoopSem Tryd.prog (nthLoop 11 (Tryd.f10.body.getD .skip)) s o :=
  loop_ok (tabOf_ok Tryd.prog) (gam_ok _) mixed F10_an N [(11, F10_l11 N)] 11 (bodyOf (nthLoop 11 (Tryd.f10.body.getD .skip))) (nthLoop 11 (Tryd.f10.body.getD .skip)) (by kernel_rfl) (by
    have e : actOf F10_an (bodyOf (nthLoop 11 (Tryd.f10.body.getD .skip))) (11 + 1) = [] := by kernel_rfl
    rw [e]
    intro p hp
    cases hp) (F10_l11 N) rfl (fun s x hc h => F10_pat11 N s x hc h) (fun x => rfl) (fun x α kn ke => (F10_body11 N x α kn ke).trans (congrArg ((F10_l11 N).b x α _) (funext fun y => (F10_l11 N).spe y α ke))) (F10_par11 N)
theorem F10_parF (N : Nat) : ParF (F10_s N).t := by
  intro x α β k k' r r' h h1
  revert h
  dsimp only [F10_s]
  (repeat' (first | (with_reducible refine par_ite ?_ ?_) | (with_reducible refine par_both ?_ ?_) | split)) <;> intro h <;> first | exact h1 _ h | (cases h; done)
theorem F10_text (N : Nat) (x : (F10_s N).X) : acall (tabOf Tryd.prog) (F10_g N) F10_an (lam N [(11, F10_l11 N)]) Tryd.f10 (F10_s N).S ((F10_s N).args x) ((F10_s N).bs x) = (F10_s N).t x Ret (fun y => some ((F10_s N).ret y)) := by kernel_rfl
theorem F10_pat (N : Nat) (a : List AV) (b : List (List AV)) (x : (F10_s N).X) (h : (F10_s N).pat a b = some x) : a = (F10_s N).args x ∧ b = (F10_s N).bs x := by
  dsimp only [F10_s] at h
  split at h
  · cases h; exact ⟨rfl, rfl⟩
  · cases h
noncomputable def F10_e (N : Nat) : Ent Tryd.prog := entOf (tabOf_ok Tryd.prog) (gam_ok _) mixed 10 Tryd.f10 Tryd.func10 rfl F10_an (lam N [(11, F10_l11 N)]) (by
    have e : actOf F10_an (Tryd.f10.body.getD .skip) 0 = [(11, nthLoop 11 (Tryd.f10.body.getD .skip))] := by kernel_rfl
    rw [e]
    intro p hp
    rcases List.mem_cons.1 hp with rfl | hp
    · exact F10_loop11 N
    cases hp) (F10_s N) (fun _ => ⟨rfl, rfl⟩) (F10_text N) (F10_pat N) (F10_parF N)
/-! ### seismonet/packet.Length (function 12) -/
def F12_an : Nat → Keep × Keep := anL []
noncomputable def F12_g (N : Nat) : GamK := gam (P := Tryd.prog) [F28_e N]
noncomputable def F12_s (N : Nat) : FSpec where
  X := ByteArray
  Y := Int × Int
  ash := [[none]]
  bsh := []
  S := ⟨[[none], [none]], [], [], [], []⟩
  bm := false
  pat := fun a b => match a, b with
    | [(AV.v (.string a0))], [] => some a0
    | _, _ => none
  args := fun x => [(AV.v (.string x))]
  bs := fun x => []
  ret := fun y => ⟨(AV.tup [(AV.v (.int .i64 y.1)), (AV.v (.int .i64 y.2))]), [], none, [], [], []⟩
  t := fun x α k => (match (decide ((x.size : Int) < 31)) with | true => (k (0, 4)) | false => (if 0 ≤ (29 : Int) then (match x[(29 : Int).toNat]? with | some c1 => (if 0 ≤ (30 : Int) then (match x[(30 : Int).toNat]? with | some c2 => (if 0 ≤ (3 : Int) ∧ (3 : Int) ≤ x.size then (match (!((x.extract 0 (3 : Int).toNat).toList == (⟨#[83, 78, 1]⟩ : ByteArray).toList)) with | true => (k (0, 3)) | false => (match F28_d N ((IntKind.i64.wrap (c1.toNat : Int)), 8, 15) with | some y3 => (match (!y3) with | true => (k (0, 3)) | false => (match F28_d N ((IntKind.i64.wrap (c2.toNat : Int)), 1, 8) with | some y4 => (match (!y4) with | true => (k (0, 3)) | false => (k ((i64 ((i64 ((i64 (31 + (IntKind.i64.wrap (c1.toNat : Int)))) + (i64 (64 * (IntKind.i64.wrap (c2.toNat : Int)))))) + 4)), 0))) | none => none)) | none => none)) else none) | none => none) else none) | none => none) else none))
noncomputable abbrev F12_d (N : Nat) (x : ByteArray) : Option (Int × Int) := (F12_s N).d x
theorem F12_parF (N : Nat) : ParF (F12_s N).t := by
  intro x α β k k' r r' h h1
  revert h
  dsimp only [F12_s]
  (repeat' (first | (with_reducible refine par_ite ?_ ?_) | (with_reducible refine par_both ?_ ?_) | split)) <;> intro h <;> first | exact h1 _ h | (cases h; done)
theorem F12_text (N : Nat) (x : (F12_s N).X) : acall (tabOf Tryd.prog) (F12_g N) F12_an (lam N []) Tryd.f12 (F12_s N).S ((F12_s N).args x) ((F12_s N).bs x) = (F12_s N).t x Ret (fun y => some ((F12_s N).ret y)) := by kernel_rfl
theorem F12_pat (N : Nat) (a : List AV) (b : List (List AV)) (x : (F12_s N).X) (h : (F12_s N).pat a b = some x) : a = (F12_s N).args x ∧ b = (F12_s N).bs x := by
  dsimp only [F12_s] at h
  split at h
  · cases h; exact ⟨rfl, rfl⟩
  · cases h
noncomputable def F12_e (N : Nat) : Ent Tryd.prog := entOf (tabOf_ok Tryd.prog) (gam_ok _) mixed 12 Tryd.f12 Tryd.func12 rfl F12_an (lam N []) (by
    have e : actOf F12_an (Tryd.f12.body.getD .skip) 0 = [] := by kernel_rfl
    rw [e]
    intro p hp
    cases hp) (F12_s N) (fun _ => ⟨rfl, rfl⟩) (F12_text N) (F12_pat N) (F12_parF N)
/-! ### (*seismonet/packet.cursor).number (function 42) -/
def F42_an : Nat → Keep × Keep := anL []
noncomputable def F42_g (N : Nat) : GamK := gam (P := Tryd.prog) [F64_e N]
noncomputable def F42_s (N : Nat) : FSpec where
  X := Int × ByteArray × Int
  Y := Int × ByteArray × Int
  ash := [[none], [none]]
  bsh := [[none, none]]
  S := ⟨[[none]], [[none, none]], [], [], []⟩
  bm := false
  pat := fun a b => match a, b with
    | [(AV.ptr 0 0), (AV.v (.int .i64 a0))], [[(AV.v (.string a1)), (AV.v (.int .i64 a2))]] => some (a0, a1, a2)
    | _, _ => none
  args := fun x => [(AV.ptr 0 0), (AV.v (.int .i64 x.1))]
  bs := fun x => [[(AV.v (.string x.2.1)), (AV.v (.int .i64 x.2.2))]]
  ret := fun y => ⟨(AV.v (.int .i64 y.1)), [[(AV.v (.string y.2.1)), (AV.v (.int .i64 y.2.2))]], none, [], [], []⟩
  t := fun x α k => (match F64_d N (x.2.1, x.2.2, x.1) with | some y1 => (k (y1.1, x.2.1, (i64 (x.2.2 + x.1)))) | none => none)
noncomputable abbrev F42_d (N : Nat) (x : Int × ByteArray × Int) : Option (Int × ByteArray × Int) := (F42_s N).d x
theorem F42_parF (N : Nat) : ParF (F42_s N).t := by
  intro x α β k k' r r' h h1
  revert h
  dsimp only [F42_s]
  (repeat' (first | (with_reducible refine par_ite ?_ ?_) | (with_reducible refine par_both ?_ ?_) | split)) <;> intro h <;> first | exact h1 _ h | (cases h; done)
theorem F42_text (N : Nat) (x : (F42_s N).X) : acall (tabOf Tryd.prog) (F42_g N) F42_an (lam N []) Tryd.f42 (F42_s N).S ((F42_s N).args x) ((F42_s N).bs x) = (F42_s N).t x Ret (fun y => some ((F42_s N).ret y)) := by kernel_rfl
theorem F42_pat (N : Nat) (a : List AV) (b : List (List AV)) (x : (F42_s N).X) (h : (F42_s N).pat a b = some x) : a = (F42_s N).args x ∧ b = (F42_s N).bs x := by
  dsimp only [F42_s] at h
  split at h
  · cases h; exact ⟨rfl, rfl⟩
  · cases h
noncomputable def F42_e (N : Nat) : Ent Tryd.prog := entOf (tabOf_ok Tryd.prog) (gam_ok _) mixed 42 Tryd.f42 Tryd.func42 rfl F42_an (lam N []) (by
    have e : actOf F42_an (Tryd.f42.body.getD .skip) 0 = [] := by kernel_rfl
    rw [e]
    intro p hp
    cases hp) (F42_s N) (fun _ => ⟨rfl, rfl⟩) (F42_text N) (F42_pat N) (F42_parF N)
/-! ### (*seismonet/packet.cursor).text (function 44) -/
def F44_an : Nat → Keep × Keep := anL []
noncomputable def F44_g (N : Nat) : GamK := gam (P := Tryd.prog) []
noncomputable def F44_s (N : Nat) : FSpec where
  X := Int × ByteArray × Int
  Y := ByteArray × ByteArray × Int
  ash := [[none], [none]]
  bsh := [[none, none]]
  S := ⟨[[none]], [[none, none]], [], [], []⟩
  bm := false
  pat := fun a b => match a, b with
    | [(AV.ptr 0 0), (AV.v (.int .i64 a0))], [[(AV.v (.string a1)), (AV.v (.int .i64 a2))]] => some (a0, a1, a2)
    | _, _ => none
  args := fun x => [(AV.ptr 0 0), (AV.v (.int .i64 x.1))]
  bs := fun x => [[(AV.v (.string x.2.1)), (AV.v (.int .i64 x.2.2))]]
  ret := fun y => ⟨(AV.v (.string y.1)), [[(AV.v (.string y.2.1)), (AV.v (.int .i64 y.2.2))]], none, [], [], []⟩
  t := fun x α k => (if 0 ≤ (i64 ((i64 (x.2.2 + x.1)) - x.1)) ∧ (i64 ((i64 (x.2.2 + x.1)) - x.1)) ≤ (i64 (x.2.2 + x.1)) ∧ (i64 (x.2.2 + x.1)) ≤ x.2.1.size then (k ((x.2.1.extract (i64 ((i64 (x.2.2 + x.1)) - x.1)).toNat (i64 (x.2.2 + x.1)).toNat), x.2.1, (i64 (x.2.2 + x.1)))) else none)
noncomputable abbrev F44_d (N : Nat) (x : Int × ByteArray × Int) : Option (ByteArray × ByteArray × Int) := (F44_s N).d x
theorem F44_parF (N : Nat) : ParF (F44_s N).t := by
  intro x α β k k' r r' h h1
  revert h
  dsimp only [F44_s]
  (repeat' (first | (with_reducible refine par_ite ?_ ?_) | (with_reducible refine par_both ?_ ?_) | split)) <;> intro h <;> first | exact h1 _ h | (cases h; done)
theorem F44_text (N : Nat) (x : (F44_s N).X) : acall (tabOf Tryd.prog) (F44_g N) F44_an (lam N []) Tryd.f44 (F44_s N).S ((F44_s N).args x) ((F44_s N).bs x) = (F44_s N).t x Ret (fun y => some ((F44_s N).ret y)) := by kernel_rfl
theorem F44_pat (N : Nat) (a : List AV) (b : List (List AV)) (x : (F44_s N).X) (h : (F44_s N).pat a b = some x) : a = (F44_s N).args x ∧ b = (F44_s N).bs x := by
  dsimp only [F44_s] at h
  split at h
  · cases h; exact ⟨rfl, rfl⟩
  · cases h
noncomputable def F44_e (N : Nat) : Ent Tryd.prog := entOf (tabOf_ok Tryd.prog) (gam_ok _) mixed 44 Tryd.f44 Tryd.func44 rfl F44_an (lam N []) (by
    have e : actOf F44_an (Tryd.f44.body.getD .skip) 0 = [] := by kernel_rfl
    rw [e]
    intro p hp
    cases hp) (F44_s N) (fun _ => ⟨rfl, rfl⟩) (F44_text N) (F44_pat N) (F44_parF N)
/-! ### seismonet/source.Parse (function 43) -/
def F43_an : Nat → Keep × Keep := anL []
noncomputable def F43_g (N : Nat) : GamK := gam (P := Tryd.prog) [F65_e N, F31_e N]
noncomputable def F43_s (N : Nat) : FSpec where
  X := ByteArray
  Y := ByteArray × ByteArray × ByteArray × ByteArray × Int
  ash := [[none]]
  bsh := []
  S := ⟨[[none, none, none, none], [none]], [], [], [], []⟩
  bm := false
  pat := fun a b => match a, b with
    | [(AV.v (.string a0))], [] => some a0
    | _, _ => none
  args := fun x => [(AV.v (.string x))]
  bs := fun x => []
  ret := fun y => ⟨(AV.tup [(AV.agg [(AV.v (.string y.1)), (AV.v (.string y.2.1)), (AV.v (.string y.2.2.1)), (AV.v (.string y.2.2.2.1))]), (AV.v (.int .i64 y.2.2.2.2))]), [], none, [], [], []⟩
  t := fun x α k => (match F65_d N (x, (⟨#[46]⟩ : ByteArray)) with | some y1 => (match ((y1.length : Int) != 4) with | true => (k ((⟨#[]⟩ : ByteArray), (⟨#[]⟩ : ByteArray), (⟨#[]⟩ : ByteArray), (⟨#[]⟩ : ByteArray), 3)) | false => (if 0 ≤ (0 : Int) then (match y1[(0 : Int).toNat]? with | some c2 => (match c2[0]? with | some x3 => (match x3 with | .v (.string s4) => (if 0 ≤ (1 : Int) then (match y1[(1 : Int).toNat]? with | some c5 => (match c5[0]? with | some x6 => (match x6 with | .v (.string s7) => (if 0 ≤ (2 : Int) then (match y1[(2 : Int).toNat]? with | some c8 => (match c8[0]? with | some x9 => (match x9 with | .v (.string s10) => (if 0 ≤ (3 : Int) then (match y1[(3 : Int).toNat]? with | some c11 => (match c11[0]? with | some x12 => (match x12 with | .v (.string s13) => (match F31_d N (s4, s7, s10, s13) with | some y14 => (match (!y14) with | true => (k ((⟨#[]⟩ : ByteArray), (⟨#[]⟩ : ByteArray), (⟨#[]⟩ : ByteArray), (⟨#[]⟩ : ByteArray), 3)) | false => (k (s4, s7, s10, s13, 0))) | none => none) | _ => none) | none => none) | none => none) else none) | _ => none) | none => none) | none => none) else none) | _ => none) | none => none) | none => none) else none) | _ => none) | none => none) | none => none) else none)) | none => none)
noncomputable abbrev F43_d (N : Nat) (x : ByteArray) : Option (ByteArray × ByteArray × ByteArray × ByteArray × Int) := (F43_s N).d x
theorem F43_parF (N : Nat) : ParF (F43_s N).t := by
  intro x α β k k' r r' h h1
  revert h
  dsimp only [F43_s]
  (repeat' (first | (with_reducible refine par_ite ?_ ?_) | (with_reducible refine par_both ?_ ?_) | split)) <;> intro h <;> first | exact h1 _ h | (cases h; done)
theorem F43_text (N : Nat) (x : (F43_s N).X) : acall (tabOf Tryd.prog) (F43_g N) F43_an (lam N []) Tryd.f43 (F43_s N).S ((F43_s N).args x) ((F43_s N).bs x) = (F43_s N).t x Ret (fun y => some ((F43_s N).ret y)) := by kernel_rfl
theorem F43_pat (N : Nat) (a : List AV) (b : List (List AV)) (x : (F43_s N).X) (h : (F43_s N).pat a b = some x) : a = (F43_s N).args x ∧ b = (F43_s N).bs x := by
  dsimp only [F43_s] at h
  split at h
  · cases h; exact ⟨rfl, rfl⟩
  · cases h
noncomputable def F43_e (N : Nat) : Ent Tryd.prog := entOf (tabOf_ok Tryd.prog) (gam_ok _) mixed 43 Tryd.f43 Tryd.func43 rfl F43_an (lam N []) (by
    have e : actOf F43_an (Tryd.f43.body.getD .skip) 0 = [] := by kernel_rfl
    rw [e]
    intro p hp
    cases hp) (F43_s N) (fun _ => ⟨rfl, rfl⟩) (F43_text N) (F43_pat N) (F43_parF N)
/-! ### seismonet/packet.read (function 27) -/
def F27_an : Nat → Keep × Keep := anL []
noncomputable def F27_g (N : Nat) : GamK := gam (P := Tryd.prog) [F42_e N, F44_e N, F43_e N, F45_e N]
noncomputable def F27_s (N : Nat) : FSpec where
  X := ByteArray
  Y := ByteArray × ByteArray × ByteArray × ByteArray × Int × Int × Int × Int × Int × Int × Int × (List (List AV)) × Bool
  ash := [[none]]
  bsh := []
  S := ⟨[[none, none, none, none, none, none, none, none, none, none, none, some 1], [none]], [], [], [], []⟩
  bm := false
  pat := fun a b => match a, b with
    | [(AV.v (.string a0))], [] => some a0
    | _, _ => none
  args := fun x => [(AV.v (.string x))]
  bs := fun x => []
  ret := fun y => ⟨(AV.tup [(AV.agg [(AV.v (.string y.1)), (AV.v (.string y.2.1)), (AV.v (.string y.2.2.1)), (AV.v (.string y.2.2.2.1)), (AV.v (.int .i64 y.2.2.2.2.1)), (AV.v (.int .i64 y.2.2.2.2.2.1)), (AV.v (.int .i64 y.2.2.2.2.2.2.1)), (AV.v (.int .i64 y.2.2.2.2.2.2.2.1)), (AV.v (.int .i64 y.2.2.2.2.2.2.2.2.1)), (AV.v (.int .i64 y.2.2.2.2.2.2.2.2.2.1)), (AV.v (.int .i64 y.2.2.2.2.2.2.2.2.2.2.1)), (AV.list 1 y.2.2.2.2.2.2.2.2.2.2.2.1 none)]), (AV.v (.bool y.2.2.2.2.2.2.2.2.2.2.2.2))]), [], none, [], [], []⟩
  t := fun x α k => (match F42_d N (1, x, 3) with | some y1 => (match F42_d N (2, y1.2.1, y1.2.2) with | some y2 => (match F42_d N (4, y2.2.1, y2.2.2) with | some y3 => (match F42_d N (7, y3.2.1, y3.2.2) with | some y4 => (match F42_d N (2, y4.2.1, y4.2.2) with | some y5 => (match F42_d N (2, y5.2.1, y5.2.2) with | some y6 => (match F42_d N (6, y6.2.1, y6.2.2) with | some y7 => (match F42_d N (2, y7.2.1, y7.2.2) with | some y8 => (match F42_d N (1, y8.2.1, y8.2.2) with | some y9 => (match F42_d N (1, y9.2.1, y9.2.2) with | some y10 => (match F44_d N (y9.1, y10.2.1, y10.2.2) with | some y11 => (match F43_d N y11.1 with | some y12 => (match F44_d N ((i64 (64 * y10.1)), y11.2.1, y11.2.2) with | some y13 => (match F45_d N (y13.1, y8.1) with | some y14 => (match (y12.2.2.2.2 == 0) with | true => (k (y12.1, y12.2.1, y12.2.2.1, y12.2.2.2.1, y2.1, y3.1, y4.1, y5.1, y6.1, y1.1, y7.1, y14.1, (y14.2 == 0))) | false => (k (y12.1, y12.2.1, y12.2.2.1, y12.2.2.2.1, y2.1, y3.1, y4.1, y5.1, y6.1, y1.1, y7.1, y14.1, false))) | none => none) | none => none) | none => none) | none => none) | none => none) | none => none) | none => none) | none => none) | none => none) | none => none) | none => none) | none => none) | none => none) | none => none)
noncomputable abbrev F27_d (N : Nat) (x : ByteArray) : Option (ByteArray × ByteArray × ByteArray × ByteArray × Int × Int × Int × Int × Int × Int × Int × (List (List AV)) × Bool) := (F27_s N).d x
theorem F27_parF (N : Nat) : ParF (F27_s N).t := by
  intro x α β k k' r r' h h1
  revert h
  dsimp only [F27_s]
  (repeat' (first | (with_reducible refine par_ite ?_ ?_) | (with_reducible refine par_both ?_ ?_) | split)) <;> intro h <;> first | exact h1 _ h | (cases h; done)
theorem F27_text (N : Nat) (x : (F27_s N).X) : acall (tabOf Tryd.prog) (F27_g N) F27_an (lam N []) Tryd.f27 (F27_s N).S ((F27_s N).args x) ((F27_s N).bs x) = (F27_s N).t x Ret (fun y => some ((F27_s N).ret y)) := by kernel_rfl
theorem F27_pat (N : Nat) (a : List AV) (b : List (List AV)) (x : (F27_s N).X) (h : (F27_s N).pat a b = some x) : a = (F27_s N).args x ∧ b = (F27_s N).bs x := by
  dsimp only [F27_s] at h
  split at h
  · cases h; exact ⟨rfl, rfl⟩
  · cases h
noncomputable def F27_e (N : Nat) : Ent Tryd.prog := entOf (tabOf_ok Tryd.prog) (gam_ok _) mixed 27 Tryd.f27 Tryd.func27 rfl F27_an (lam N []) (by
    have e : actOf F27_an (Tryd.f27.body.getD .skip) 0 = [] := by kernel_rfl
    rw [e]
    intro p hp
    cases hp) (F27_s N) (fun _ => ⟨rfl, rfl⟩) (F27_text N) (F27_pat N) (F27_parF N)
/-! ### seismonet/packet.Decode (function 11) -/
def F11_an : Nat → Keep × Keep := anL []
noncomputable def F11_g (N : Nat) : GamK := gam (P := Tryd.prog) [F12_e N, F26_e N, F27_e N, F10_e N]
noncomputable def F11_s (N : Nat) : FSpec where
  X := ByteArray
  Y := ByteArray × ByteArray × ByteArray × ByteArray × Int × Int × Int × Int × Int × Int × Int × (List (List AV)) × Int
  ash := [[none]]
  bsh := []
  S := ⟨[[none, none, none, none, none, none, none, none, none, none, none, some 1], [none]], [], [], [], []⟩
  bm := false
  pat := fun a b => match a, b with
    | [(AV.v (.string a0))], [] => some a0
    | _, _ => none
  args := fun x => [(AV.v (.string x))]
  bs := fun x => []
  ret := fun y => ⟨(AV.tup [(AV.agg [(AV.v (.string y.1)), (AV.v (.string y.2.1)), (AV.v (.string y.2.2.1)), (AV.v (.string y.2.2.2.1)), (AV.v (.int .i64 y.2.2.2.2.1)), (AV.v (.int .i64 y.2.2.2.2.2.1)), (AV.v (.int .i64 y.2.2.2.2.2.2.1)), (AV.v (.int .i64 y.2.2.2.2.2.2.2.1)), (AV.v (.int .i64 y.2.2.2.2.2.2.2.2.1)), (AV.v (.int .i64 y.2.2.2.2.2.2.2.2.2.1)), (AV.v (.int .i64 y.2.2.2.2.2.2.2.2.2.2.1)), (AV.list 1 y.2.2.2.2.2.2.2.2.2.2.2.1 none)]), (AV.v (.int .i64 y.2.2.2.2.2.2.2.2.2.2.2.2))]), [], none, [], [], []⟩
  t := fun x α k => (match F12_d N x with | some y1 => (match (y1.2 != 0) with | true => (k ((⟨#[]⟩ : ByteArray), (⟨#[]⟩ : ByteArray), (⟨#[]⟩ : ByteArray), (⟨#[]⟩ : ByteArray), 0, 0, 0, 0, 0, 0, 0, ([] : List (List AV)), y1.2)) | false => (match (decide ((x.size : Int) < y1.1)) with | true => (k ((⟨#[]⟩ : ByteArray), (⟨#[]⟩ : ByteArray), (⟨#[]⟩ : ByteArray), (⟨#[]⟩ : ByteArray), 0, 0, 0, 0, 0, 0, 0, ([] : List (List AV)), 4)) | false => (match (decide ((x.size : Int) > y1.1)) with | true => (k ((⟨#[]⟩ : ByteArray), (⟨#[]⟩ : ByteArray), (⟨#[]⟩ : ByteArray), (⟨#[]⟩ : ByteArray), 0, 0, 0, 0, 0, 0, 0, ([] : List (List AV)), 3)) | false => (match F26_d N x with | some y2 => (match (!y2) with | true => (k ((⟨#[]⟩ : ByteArray), (⟨#[]⟩ : ByteArray), (⟨#[]⟩ : ByteArray), (⟨#[]⟩ : ByteArray), 0, 0, 0, 0, 0, 0, 0, ([] : List (List AV)), 5)) | false => (match F27_d N x with | some y3 => (match F10_d N (y3.1, y3.2.1, y3.2.2.1, y3.2.2.2.1, y3.2.2.2.2.1, y3.2.2.2.2.2.1, y3.2.2.2.2.2.2.1, y3.2.2.2.2.2.2.2.1, y3.2.2.2.2.2.2.2.2.1, y3.2.2.2.2.2.2.2.2.2.1, y3.2.2.2.2.2.2.2.2.2.2.1, y3.2.2.2.2.2.2.2.2.2.2.2.1) with | some y4 => (match (!y3.2.2.2.2.2.2.2.2.2.2.2.2) with | true => (k ((⟨#[]⟩ : ByteArray), (⟨#[]⟩ : ByteArray), (⟨#[]⟩ : ByteArray), (⟨#[]⟩ : ByteArray), 0, 0, 0, 0, 0, 0, 0, ([] : List (List AV)), 3)) | false => (match (y4.2 != 0) with | true => (k ((⟨#[]⟩ : ByteArray), (⟨#[]⟩ : ByteArray), (⟨#[]⟩ : ByteArray), (⟨#[]⟩ : ByteArray), 0, 0, 0, 0, 0, 0, 0, ([] : List (List AV)), 3)) | false => (match (!(y4.1.toList == x.toList)) with | true => (k ((⟨#[]⟩ : ByteArray), (⟨#[]⟩ : ByteArray), (⟨#[]⟩ : ByteArray), (⟨#[]⟩ : ByteArray), 0, 0, 0, 0, 0, 0, 0, ([] : List (List AV)), 3)) | false => (k (y3.1, y3.2.1, y3.2.2.1, y3.2.2.2.1, y3.2.2.2.2.1, y3.2.2.2.2.2.1, y3.2.2.2.2.2.2.1, y3.2.2.2.2.2.2.2.1, y3.2.2.2.2.2.2.2.2.1, y3.2.2.2.2.2.2.2.2.2.1, y3.2.2.2.2.2.2.2.2.2.2.1, y3.2.2.2.2.2.2.2.2.2.2.2.1, 0))))) | none => none) | none => none)) | none => none)))) | none => none)
noncomputable abbrev F11_d (N : Nat) (x : ByteArray) : Option (ByteArray × ByteArray × ByteArray × ByteArray × Int × Int × Int × Int × Int × Int × Int × (List (List AV)) × Int) := (F11_s N).d x
theorem F11_parF (N : Nat) : ParF (F11_s N).t := by
  intro x α β k k' r r' h h1
  revert h
  dsimp only [F11_s]
  (repeat' (first | (with_reducible refine par_ite ?_ ?_) | (with_reducible refine par_both ?_ ?_) | split)) <;> intro h <;> first | exact h1 _ h | (cases h; done)
theorem F11_text (N : Nat) (x : (F11_s N).X) : acall (tabOf Tryd.prog) (F11_g N) F11_an (lam N []) Tryd.f11 (F11_s N).S ((F11_s N).args x) ((F11_s N).bs x) = (F11_s N).t x Ret (fun y => some ((F11_s N).ret y)) := by kernel_rfl
theorem F11_pat (N : Nat) (a : List AV) (b : List (List AV)) (x : (F11_s N).X) (h : (F11_s N).pat a b = some x) : a = (F11_s N).args x ∧ b = (F11_s N).bs x := by
  dsimp only [F11_s] at h
  split at h
  · cases h; exact ⟨rfl, rfl⟩
  · cases h
noncomputable def F11_e (N : Nat) : Ent Tryd.prog := entOf (tabOf_ok Tryd.prog) (gam_ok _) mixed 11 Tryd.f11 Tryd.func11 rfl F11_an (lam N []) (by
    have e : actOf F11_an (Tryd.f11.body.getD .skip) 0 = [] := by kernel_rfl
    rw [e]
    intro p hp
    cases hp) (F11_s N) (fun _ => ⟨rfl, rfl⟩) (F11_text N) (F11_pat N) (F11_parF N)
/-! ### seismonet/seismonetref07.Same (function 13) -/
def F13_an : Nat → Keep × Keep := anL []
noncomputable def F13_g (N : Nat) : GamK := gam (P := Tryd.prog) [F29_e N]
noncomputable def F13_s (N : Nat) : FSpec where
  X := ByteArray × ByteArray × ByteArray × ByteArray × Int × Int × Int × Int × Int × Int × Int × (List (List AV)) × ByteArray × ByteArray × ByteArray × ByteArray × Int × Int × Int × Int × Int × Int × Int × (List (List AV))
  Y := Bool
  ash := [[none, none, none, none, none, none, none, none, none, none, none, some 1], [none, none, none, none, none, none, none, none, none, none, none, some 1]]
  bsh := []
  S := ⟨[[none]], [], [], [], []⟩
  bm := false
  pat := fun a b => match a, b with
    | [(AV.agg [(AV.v (.string a0)), (AV.v (.string a1)), (AV.v (.string a2)), (AV.v (.string a3)), (AV.v (.int .i64 a4)), (AV.v (.int .i64 a5)), (AV.v (.int .i64 a6)), (AV.v (.int .i64 a7)), (AV.v (.int .i64 a8)), (AV.v (.int .i64 a9)), (AV.v (.int .i64 a10)), (AV.list 1 a11 none)]), (AV.agg [(AV.v (.string a12)), (AV.v (.string a13)), (AV.v (.string a14)), (AV.v (.string a15)), (AV.v (.int .i64 a16)), (AV.v (.int .i64 a17)), (AV.v (.int .i64 a18)), (AV.v (.int .i64 a19)), (AV.v (.int .i64 a20)), (AV.v (.int .i64 a21)), (AV.v (.int .i64 a22)), (AV.list 1 a23 none)])], [] => some (a0, a1, a2, a3, a4, a5, a6, a7, a8, a9, a10, a11, a12, a13, a14, a15, a16, a17, a18, a19, a20, a21, a22, a23)
    | _, _ => none
  args := fun x => [(AV.agg [(AV.v (.string x.1)), (AV.v (.string x.2.1)), (AV.v (.string x.2.2.1)), (AV.v (.string x.2.2.2.1)), (AV.v (.int .i64 x.2.2.2.2.1)), (AV.v (.int .i64 x.2.2.2.2.2.1)), (AV.v (.int .i64 x.2.2.2.2.2.2.1)), (AV.v (.int .i64 x.2.2.2.2.2.2.2.1)), (AV.v (.int .i64 x.2.2.2.2.2.2.2.2.1)), (AV.v (.int .i64 x.2.2.2.2.2.2.2.2.2.1)), (AV.v (.int .i64 x.2.2.2.2.2.2.2.2.2.2.1)), (AV.list 1 x.2.2.2.2.2.2.2.2.2.2.2.1 none)]), (AV.agg [(AV.v (.string x.2.2.2.2.2.2.2.2.2.2.2.2.1)), (AV.v (.string x.2.2.2.2.2.2.2.2.2.2.2.2.2.1)), (AV.v (.string x.2.2.2.2.2.2.2.2.2.2.2.2.2.2.1)), (AV.v (.string x.2.2.2.2.2.2.2.2.2.2.2.2.2.2.2.1)), (AV.v (.int .i64 x.2.2.2.2.2.2.2.2.2.2.2.2.2.2.2.2.1)), (AV.v (.int .i64 x.2.2.2.2.2.2.2.2.2.2.2.2.2.2.2.2.2.1)), (AV.v (.int .i64 x.2.2.2.2.2.2.2.2.2.2.2.2.2.2.2.2.2.2.1)), (AV.v (.int .i64 x.2.2.2.2.2.2.2.2.2.2.2.2.2.2.2.2.2.2.2.1)), (AV.v (.int .i64 x.2.2.2.2.2.2.2.2.2.2.2.2.2.2.2.2.2.2.2.2.1)), (AV.v (.int .i64 x.2.2.2.2.2.2.2.2.2.2.2.2.2.2.2.2.2.2.2.2.2.1)), (AV.v (.int .i64 x.2.2.2.2.2.2.2.2.2.2.2.2.2.2.2.2.2.2.2.2.2.2.1)), (AV.list 1 x.2.2.2.2.2.2.2.2.2.2.2.2.2.2.2.2.2.2.2.2.2.2.2 none)])]
  bs := fun x => []
  ret := fun y => ⟨(AV.v (.bool y)), [], none, [], [], []⟩
  t := fun x α k => (match ((x.1 == x.2.2.2.2.2.2.2.2.2.2.2.2.1) && ((x.2.1 == x.2.2.2.2.2.2.2.2.2.2.2.2.2.1) && ((x.2.2.1 == x.2.2.2.2.2.2.2.2.2.2.2.2.2.2.1) && ((x.2.2.2.1 == x.2.2.2.2.2.2.2.2.2.2.2.2.2.2.2.1) && true)))) with | true => (match (x.2.2.2.2.1 == x.2.2.2.2.2.2.2.2.2.2.2.2.2.2.2.2.1) with | true => (match (x.2.2.2.2.2.1 == x.2.2.2.2.2.2.2.2.2.2.2.2.2.2.2.2.2.1) with | true => (match (x.2.2.2.2.2.2.1 == x.2.2.2.2.2.2.2.2.2.2.2.2.2.2.2.2.2.2.1) with | true => (match ((x.2.2.2.2.2.2.2.1 == x.2.2.2.2.2.2.2.2.2.2.2.2.2.2.2.2.2.2.2.1) && ((x.2.2.2.2.2.2.2.2.1 == x.2.2.2.2.2.2.2.2.2.2.2.2.2.2.2.2.2.2.2.2.1) && true)) with | true => (match ((x.2.2.2.2.2.2.2.2.2.1 == x.2.2.2.2.2.2.2.2.2.2.2.2.2.2.2.2.2.2.2.2.2.1) && ((x.2.2.2.2.2.2.2.2.2.2.1 == x.2.2.2.2.2.2.2.2.2.2.2.2.2.2.2.2.2.2.2.2.2.2.1) && true)) with | true => (match F29_d N (x.2.2.2.2.2.2.2.2.2.2.2.1, x.2.2.2.2.2.2.2.2.2.2.2.2.2.2.2.2.2.2.2.2.2.2.2) with | some y1 => (k y1) | none => none) | false => (k false)) | false => (k false)) | false => (k false)) | false => (k false)) | false => (k false)) | false => (k false))
noncomputable abbrev F13_d (N : Nat) (x : ByteArray × ByteArray × ByteArray × ByteArray × Int × Int × Int × Int × Int × Int × Int × (List (List AV)) × ByteArray × ByteArray × ByteArray × ByteArray × Int × Int × Int × Int × Int × Int × Int × (List (List AV))) : Option (Bool) := (F13_s N).d x
theorem F13_parF (N : Nat) : ParF (F13_s N).t := by
  intro x α β k k' r r' h h1
  revert h
  dsimp only [F13_s]
  (repeat' (first | (with_reducible refine par_ite ?_ ?_) | (with_reducible refine par_both ?_ ?_) | split)) <;> intro h <;> first | exact h1 _ h | (cases h; done)
theorem F13_text (N : Nat) (x : (F13_s N).X) : acall (tabOf Tryd.prog) (F13_g N) F13_an (lam N []) Tryd.f13 (F13_s N).S ((F13_s N).args x) ((F13_s N).bs x) = (F13_s N).t x Ret (fun y => some ((F13_s N).ret y)) := by kernel_rfl
theorem F13_pat (N : Nat) (a : List AV) (b : List (List AV)) (x : (F13_s N).X) (h : (F13_s N).pat a b = some x) : a = (F13_s N).args x ∧ b = (F13_s N).bs x := by
  dsimp only [F13_s] at h
  split at h
  · cases h; exact ⟨rfl, rfl⟩
  · cases h
noncomputable def F13_e (N : Nat) : Ent Tryd.prog := entOf (tabOf_ok Tryd.prog) (gam_ok _) mixed 13 Tryd.f13 Tryd.func13 rfl F13_an (lam N []) (by
    have e : actOf F13_an (Tryd.f13.body.getD .skip) 0 = [] := by kernel_rfl
    rw [e]
    intro p hp
    cases hp) (F13_s N) (fun _ => ⟨rfl, rfl⟩) (F13_text N) (F13_pat N) (F13_parF N)
/-! ### seismonet/seismonetlaw07.sane (function 7) -/
def F7_an : Nat → Keep × Keep := anL []
noncomputable def F7_g (N : Nat) : GamK := gam (P := Tryd.prog) [F10_e N, F12_e N, F11_e N, F13_e N, F17_e N]
noncomputable def F7_s (N : Nat) : FSpec where
  X := Unit
  Y := Bool
  ash := []
  bsh := []
  S := ⟨[[none]], [], [], [], []⟩
  bm := false
  pat := fun a b => match a, b with
    | [], [] => some ()
    | _, _ => none
  args := fun x => []
  bs := fun x => []
  ret := fun y => ⟨(AV.v (.bool y)), [], none, [], [], []⟩
  t := fun x α k => (match F10_d N ((⟨#[71, 82]⟩ : ByteArray), (⟨#[70, 85, 82]⟩ : ByteArray), (⟨#[]⟩ : ByteArray), (⟨#[72, 72, 90]⟩ : ByteArray), 0, 0, 0, 100, 1, 0, 0, [[(AV.v (.int .i64 7))]]) with | some y1 => (match F12_d N y1.1 with | some y2 => (match F11_d N y1.1 with | some y3 => (match (y1.2 == 0) with | true => (match (y2.2 == 0) with | true => (match (y3.2.2.2.2.2.2.2.2.2.2.2.2 == 0) with | true => (match ((y1.1.size : Int) == 110) with | true => (match (y2.1 == 110) with | true => (match F13_d N ((⟨#[71, 82]⟩ : ByteArray), (⟨#[70, 85, 82]⟩ : ByteArray), (⟨#[]⟩ : ByteArray), (⟨#[72, 72, 90]⟩ : ByteArray), 0, 0, 0, 100, 1, 0, 0, [[(AV.v (.int .i64 7))]], y3.1, y3.2.1, y3.2.2.1, y3.2.2.2.1, y3.2.2.2.2.1, y3.2.2.2.2.2.1, y3.2.2.2.2.2.2.1, y3.2.2.2.2.2.2.2.1, y3.2.2.2.2.2.2.2.2.1, y3.2.2.2.2.2.2.2.2.2.1, y3.2.2.2.2.2.2.2.2.2.2.1, y3.2.2.2.2.2.2.2.2.2.2.2.1) with | some y4 => (match y4 with | true => (match F17_d N ((⟨#[71, 82]⟩ : ByteArray), (⟨#[70, 85, 82]⟩ : ByteArray), (⟨#[]⟩ : ByteArray), (⟨#[72, 72, 90]⟩ : ByteArray), 0, 0, 0, 100, 1, 0, 0, [[(AV.v (.int .i64 7))]]) with | some y5 => (k y5) | none => none) | false => (k false)) | none => none) | false => (k false)) | false => (k false)) | false => (k false)) | false => (k false)) | false => (k false)) | none => none) | none => none) | none => none)
noncomputable abbrev F7_d (N : Nat) (x : Unit) : Option (Bool) := (F7_s N).d x
theorem F7_parF (N : Nat) : ParF (F7_s N).t := by
  intro x α β k k' r r' h h1
  revert h
  dsimp only [F7_s]
  (repeat' (first | (with_reducible refine par_ite ?_ ?_) | (with_reducible refine par_both ?_ ?_) | split)) <;> intro h <;> first | exact h1 _ h | (cases h; done)
theorem F7_text (N : Nat) (x : (F7_s N).X) : acall (tabOf Tryd.prog) (F7_g N) F7_an (lam N []) Tryd.f7 (F7_s N).S ((F7_s N).args x) ((F7_s N).bs x) = (F7_s N).t x Ret (fun y => some ((F7_s N).ret y)) := by kernel_rfl
theorem F7_pat (N : Nat) (a : List AV) (b : List (List AV)) (x : (F7_s N).X) (h : (F7_s N).pat a b = some x) : a = (F7_s N).args x ∧ b = (F7_s N).bs x := by
  dsimp only [F7_s] at h
  split at h
  · cases h; exact ⟨rfl, rfl⟩
  · cases h
noncomputable def F7_e (N : Nat) : Ent Tryd.prog := entOf (tabOf_ok Tryd.prog) (gam_ok _) mixed 7 Tryd.f7 Tryd.func7 rfl F7_an (lam N []) (by
    have e : actOf F7_an (Tryd.f7.body.getD .skip) 0 = [] := by kernel_rfl
    rw [e]
    intro p hp
    cases hp) (F7_s N) (fun _ => ⟨rfl, rfl⟩) (F7_text N) (F7_pat N) (F7_parF N)
/-! ### (*seismonet/seismonetmade.Dice).Next (function 15) -/
def F15_an : Nat → Keep × Keep := anL []
noncomputable def F15_g (N : Nat) : GamK := gam (P := Tryd.prog) []
noncomputable def F15_s (N : Nat) : FSpec where
  X := Int × (List (List AV)) × Int
  Y := Int × (List (List AV)) × Int
  ash := [[none], [none]]
  bsh := [[some 1, none]]
  S := ⟨[[none]], [[some 1, none]], [], [], []⟩
  bm := false
  pat := fun a b => match a, b with
    | [(AV.ptr 0 0), (AV.v (.int .i64 a0))], [[(AV.list 1 a1 none), (AV.v (.int .i64 a2))]] => some (a0, a1, a2)
    | _, _ => none
  args := fun x => [(AV.ptr 0 0), (AV.v (.int .i64 x.1))]
  bs := fun x => [[(AV.list 1 x.2.1 none), (AV.v (.int .i64 x.2.2))]]
  ret := fun y => ⟨(AV.v (.int .i64 y.1)), [[(AV.list 1 y.2.1 none), (AV.v (.int .i64 y.2.2))]], none, [], [], []⟩
  t := fun x α k => (match (decide (x.2.2 ≥ (x.2.1.length : Int))) with | true => (k (0, x.2.1, x.2.2)) | false => (match (decide (x.1 < 1)) with | true => (k (0, x.2.1, x.2.2)) | false => (if 0 ≤ x.2.2 then (match x.2.1[x.2.2.toNat]? with | some c1 => (match c1[0]? with | some x2 => (match x2 with | .v (.int q4 n3) => (if q4 = .i64 then (if x.1 = 0 then none else (match (decide ((n3.tmod x.1) < 0)) with | true => (k ((i64 ((n3.tmod x.1) + x.1)), x.2.1, (i64 (x.2.2 + 1)))) | false => (k ((n3.tmod x.1), x.2.1, (i64 (x.2.2 + 1)))))) else none) | _ => none) | none => none) | none => none) else none)))
noncomputable abbrev F15_d (N : Nat) (x : Int × (List (List AV)) × Int) : Option (Int × (List (List AV)) × Int) := (F15_s N).d x
theorem F15_parF (N : Nat) : ParF (F15_s N).t := by
  intro x α β k k' r r' h h1
  revert h
  dsimp only [F15_s]
  (repeat' (first | (with_reducible refine par_ite ?_ ?_) | (with_reducible refine par_both ?_ ?_) | split)) <;> intro h <;> first | exact h1 _ h | (cases h; done)
theorem F15_text (N : Nat) (x : (F15_s N).X) : acall (tabOf Tryd.prog) (F15_g N) F15_an (lam N []) Tryd.f15 (F15_s N).S ((F15_s N).args x) ((F15_s N).bs x) = (F15_s N).t x Ret (fun y => some ((F15_s N).ret y)) := by kernel_rfl
theorem F15_pat (N : Nat) (a : List AV) (b : List (List AV)) (x : (F15_s N).X) (h : (F15_s N).pat a b = some x) : a = (F15_s N).args x ∧ b = (F15_s N).bs x := by
  dsimp only [F15_s] at h
  split at h
  · cases h; exact ⟨rfl, rfl⟩
  · cases h
noncomputable def F15_e (N : Nat) : Ent Tryd.prog := entOf (tabOf_ok Tryd.prog) (gam_ok _) mixed 15 Tryd.f15 Tryd.func15 rfl F15_an (lam N []) (by
    have e : actOf F15_an (Tryd.f15.body.getD .skip) 0 = [] := by kernel_rfl
    rw [e]
    intro p hp
    cases hp) (F15_s N) (fun _ => ⟨rfl, rfl⟩) (F15_text N) (F15_pat N) (F15_parF N)
/-! ### (*seismonet/seismonetmade.Dice).Source (function 18) -/
def F18_an : Nat → Keep × Keep := anL []
noncomputable def F18_g (N : Nat) : GamK := gam (P := Tryd.prog) [F15_e N]
noncomputable def F18_s (N : Nat) : FSpec where
  X := (List (List AV)) × Int
  Y := ByteArray × ByteArray × ByteArray × ByteArray × (List (List AV)) × Int
  ash := [[none]]
  bsh := [[some 1, none]]
  S := ⟨[[none, none, none, none]], [[some 1, none]], [], [], []⟩
  bm := false
  pat := fun a b => match a, b with
    | [(AV.ptr 0 0)], [[(AV.list 1 a0 none), (AV.v (.int .i64 a1))]] => some (a0, a1)
    | _, _ => none
  args := fun x => [(AV.ptr 0 0)]
  bs := fun x => [[(AV.list 1 x.1 none), (AV.v (.int .i64 x.2))]]
  ret := fun y => ⟨(AV.agg [(AV.v (.string y.1)), (AV.v (.string y.2.1)), (AV.v (.string y.2.2.1)), (AV.v (.string y.2.2.2.1))]), [[(AV.list 1 y.2.2.2.2.1 none), (AV.v (.int .i64 y.2.2.2.2.2))]], none, [], [], []⟩
  t := fun x α k => (match F15_d N (3, x.1, x.2) with | some y1 => (if 0 ≤ y1.1 then (match [[(AV.v (.string (⟨#[71, 82]⟩ : ByteArray)))], [(AV.v (.string (⟨#[88]⟩ : ByteArray)))], [(AV.v (.string (⟨#[55, 65]⟩ : ByteArray)))]][y1.1.toNat]? with | some c2 => (match c2[0]? with | some x3 => (match x3 with | .v (.string s4) => (match F15_d N (4, y1.2.1, y1.2.2) with | some y5 => (if 0 ≤ y5.1 then (match [[(AV.v (.string (⟨#[70, 85, 82]⟩ : ByteArray)))], [(AV.v (.string (⟨#[65]⟩ : ByteArray)))], [(AV.v (.string (⟨#[65, 66, 67, 68, 69]⟩ : ByteArray)))], [(AV.v (.string (⟨#[70, 85]⟩ : ByteArray)))]][y5.1.toNat]? with | some c6 => (match c6[0]? with | some x7 => (match x7 with | .v (.string s8) => (match F15_d N (3, y5.2.1, y5.2.2) with | some y9 => (if 0 ≤ y9.1 then (match [[(AV.v (.string (⟨#[]⟩ : ByteArray)))], [(AV.v (.string (⟨#[48, 48]⟩ : ByteArray)))], [(AV.v (.string (⟨#[49, 48]⟩ : ByteArray)))]][y9.1.toNat]? with | some c10 => (match c10[0]? with | some x11 => (match x11 with | .v (.string s12) => (match F15_d N (3, y9.2.1, y9.2.2) with | some y13 => (if 0 ≤ y13.1 then (match [[(AV.v (.string (⟨#[72, 72, 90]⟩ : ByteArray)))], [(AV.v (.string (⟨#[72, 72, 78]⟩ : ByteArray)))], [(AV.v (.string (⟨#[66, 72, 90]⟩ : ByteArray)))]][y13.1.toNat]? with | some c14 => (match c14[0]? with | some x15 => (match x15 with | .v (.string s16) => (k (s4, s8, s12, s16, y13.2.1, y13.2.2)) | _ => none) | none => none) | none => none) else none) | none => none) | _ => none) | none => none) | none => none) else none) | none => none) | _ => none) | none => none) | none => none) else none) | none => none) | _ => none) | none => none) | none => none) else none) | none => none)
noncomputable abbrev F18_d (N : Nat) (x : (List (List AV)) × Int) : Option (ByteArray × ByteArray × ByteArray × ByteArray × (List (List AV)) × Int) := (F18_s N).d x
theorem F18_parF (N : Nat) : ParF (F18_s N).t := by
  intro x α β k k' r r' h h1
  revert h
  dsimp only [F18_s]
  (repeat' (first | (with_reducible refine par_ite ?_ ?_) | (with_reducible refine par_both ?_ ?_) | split)) <;> intro h <;> first | exact h1 _ h | (cases h; done)
theorem F18_text (N : Nat) (x : (F18_s N).X) : acall (tabOf Tryd.prog) (F18_g N) F18_an (lam N []) Tryd.f18 (F18_s N).S ((F18_s N).args x) ((F18_s N).bs x) = (F18_s N).t x Ret (fun y => some ((F18_s N).ret y)) := by kernel_rfl
theorem F18_pat (N : Nat) (a : List AV) (b : List (List AV)) (x : (F18_s N).X) (h : (F18_s N).pat a b = some x) : a = (F18_s N).args x ∧ b = (F18_s N).bs x := by
  dsimp only [F18_s] at h
  split at h
  · cases h; exact ⟨rfl, rfl⟩
  · cases h
noncomputable def F18_e (N : Nat) : Ent Tryd.prog := entOf (tabOf_ok Tryd.prog) (gam_ok _) mixed 18 Tryd.f18 Tryd.func18 rfl F18_an (lam N []) (by
    have e : actOf F18_an (Tryd.f18.body.getD .skip) 0 = [] := by kernel_rfl
    rw [e]
    intro p hp
    cases hp) (F18_s N) (fun _ => ⟨rfl, rfl⟩) (F18_text N) (F18_pat N) (F18_parF N)
/-! ### (*seismonet/seismonetmade.Dice).Pick (function 19) -/
def F19_an : Nat → Keep × Keep := anL []
noncomputable def F19_g (N : Nat) : GamK := gam (P := Tryd.prog) [F15_e N]
noncomputable def F19_s (N : Nat) : FSpec where
  X := (List (List AV)) × (List (List AV)) × Int
  Y := Int × (List (List AV)) × Int
  ash := [[none], [some 1]]
  bsh := [[some 1, none]]
  S := ⟨[[none]], [[some 1, none]], [], [], []⟩
  bm := false
  pat := fun a b => match a, b with
    | [(AV.ptr 0 0), (AV.list 1 a0 none)], [[(AV.list 1 a1 none), (AV.v (.int .i64 a2))]] => some (a0, a1, a2)
    | _, _ => none
  args := fun x => [(AV.ptr 0 0), (AV.list 1 x.1 none)]
  bs := fun x => [[(AV.list 1 x.2.1 none), (AV.v (.int .i64 x.2.2))]]
  ret := fun y => ⟨(AV.v (.int .i64 y.1)), [[(AV.list 1 y.2.1 none), (AV.v (.int .i64 y.2.2))]], none, [], [], []⟩
  t := fun x α k => (match F15_d N ((x.1.length : Int), x.2.1, x.2.2) with | some y1 => (if 0 ≤ y1.1 then (match x.1[y1.1.toNat]? with | some c2 => (match c2[0]? with | some x3 => (match x3 with | .v (.int q5 n4) => (if q5 = .i64 then (k (n4, y1.2.1, y1.2.2)) else none) | _ => none) | none => none) | none => none) else none) | none => none)
noncomputable abbrev F19_d (N : Nat) (x : (List (List AV)) × (List (List AV)) × Int) : Option (Int × (List (List AV)) × Int) := (F19_s N).d x
theorem F19_parF (N : Nat) : ParF (F19_s N).t := by
  intro x α β k k' r r' h h1
  revert h
  dsimp only [F19_s]
  (repeat' (first | (with_reducible refine par_ite ?_ ?_) | (with_reducible refine par_both ?_ ?_) | split)) <;> intro h <;> first | exact h1 _ h | (cases h; done)
theorem F19_text (N : Nat) (x : (F19_s N).X) : acall (tabOf Tryd.prog) (F19_g N) F19_an (lam N []) Tryd.f19 (F19_s N).S ((F19_s N).args x) ((F19_s N).bs x) = (F19_s N).t x Ret (fun y => some ((F19_s N).ret y)) := by kernel_rfl
theorem F19_pat (N : Nat) (a : List AV) (b : List (List AV)) (x : (F19_s N).X) (h : (F19_s N).pat a b = some x) : a = (F19_s N).args x ∧ b = (F19_s N).bs x := by
  dsimp only [F19_s] at h
  split at h
  · cases h; exact ⟨rfl, rfl⟩
  · cases h
noncomputable def F19_e (N : Nat) : Ent Tryd.prog := entOf (tabOf_ok Tryd.prog) (gam_ok _) mixed 19 Tryd.f19 Tryd.func19 rfl F19_an (lam N []) (by
    have e : actOf F19_an (Tryd.f19.body.getD .skip) 0 = [] := by kernel_rfl
    rw [e]
    intro p hp
    cases hp) (F19_s N) (fun _ => ⟨rfl, rfl⟩) (F19_text N) (F19_pat N) (F19_parF N)
/-! ### seismonet/seismonetref01.In (function 30) -/
def F30_an : Nat → Keep × Keep := anL []
noncomputable def F30_g (N : Nat) : GamK := gam (P := Tryd.prog) []
noncomputable def F30_s (N : Nat) : FSpec where
  X := Int × Int × Int
  Y := Bool
  ash := [[none], [none], [none]]
  bsh := []
  S := ⟨[[none]], [], [], [], []⟩
  bm := false
  pat := fun a b => match a, b with
    | [(AV.v (.int .i64 a0)), (AV.v (.int .i64 a1)), (AV.v (.int .i64 a2))], [] => some (a0, a1, a2)
    | _, _ => none
  args := fun x => [(AV.v (.int .i64 x.1)), (AV.v (.int .i64 x.2.1)), (AV.v (.int .i64 x.2.2))]
  bs := fun x => []
  ret := fun y => ⟨(AV.v (.bool y)), [], none, [], [], []⟩
  t := fun x α k => (match (decide (x.1 ≥ x.2.1)) with | true => (k (decide (x.1 ≤ x.2.2))) | false => (k false))
noncomputable abbrev F30_d (N : Nat) (x : Int × Int × Int) : Option (Bool) := (F30_s N).d x
theorem F30_parF (N : Nat) : ParF (F30_s N).t := by
  intro x α β k k' r r' h h1
  revert h
  dsimp only [F30_s]
  (repeat' (first | (with_reducible refine par_ite ?_ ?_) | (with_reducible refine par_both ?_ ?_) | split)) <;> intro h <;> first | exact h1 _ h | (cases h; done)
theorem F30_text (N : Nat) (x : (F30_s N).X) : acall (tabOf Tryd.prog) (F30_g N) F30_an (lam N []) Tryd.f30 (F30_s N).S ((F30_s N).args x) ((F30_s N).bs x) = (F30_s N).t x Ret (fun y => some ((F30_s N).ret y)) := by kernel_rfl
theorem F30_pat (N : Nat) (a : List AV) (b : List (List AV)) (x : (F30_s N).X) (h : (F30_s N).pat a b = some x) : a = (F30_s N).args x ∧ b = (F30_s N).bs x := by
  dsimp only [F30_s] at h
  split at h
  · cases h; exact ⟨rfl, rfl⟩
  · cases h
noncomputable def F30_e (N : Nat) : Ent Tryd.prog := entOf (tabOf_ok Tryd.prog) (gam_ok _) mixed 30 Tryd.f30 Tryd.func30 rfl F30_an (lam N []) (by
    have e : actOf F30_an (Tryd.f30.body.getD .skip) 0 = [] := by kernel_rfl
    rw [e]
    intro p hp
    cases hp) (F30_s N) (fun _ => ⟨rfl, rfl⟩) (F30_text N) (F30_pat N) (F30_parF N)
/-! ### seismonet/seismonetref02.gcd (function 49) -/
def F49_an : Nat → Keep × Keep := anL [(3, ⟨[0, 1], [], [], [], [], [], [], [], false⟩, ⟨[0], [], [], [], [], [], [], [], false⟩)]
noncomputable def F49_g (N : Nat) : GamK := gam (P := Tryd.prog) []
noncomputable def F49_l3 (N : Nat) : LSpec where
  X := Int × Int
  Y := (Int)
  p := fun s => match s.env.length, s.nin, s.at 0, s.at 1 with
    | 12, 0, (AV.v (.int .i64 a0)), (AV.v (.int .i64 a1)) => some (a0, a1)
    | _, _, _, _ => none
  st := fun x => mkS 12 [(0, (AV.v (.int .i64 x.1))), (1, (AV.v (.int .i64 x.2)))] [] (F49_an 3).1.toks 0
  out := fun y => (.exit 0, mkS 12 [(0, (AV.v (.int .i64 y)))] [] (F49_an 3).2.toks 0)
  sp := fun y α k => k (.exit 0, mkS 12 [(0, (AV.v (.int .i64 y)))] [] (F49_an 3).2.toks 0)
  spe := fun y α k => rfl
  b := fun x α kn ke => (match (x.2 != 0) with | true => (if x.2 = 0 then none else (kn (x.2, (x.1.tmod x.2)))) | false => (ke x.1))
noncomputable abbrev F49_d3 (N : Nat) (x : Int × Int) : Option ((Int)) := (F49_l3 N).L N x
noncomputable def F49_s (N : Nat) : FSpec where
  X := Int × Int
  Y := Int
  ash := [[none], [none]]
  bsh := []
  S := ⟨[[none]], [], [], [], []⟩
  bm := false
  pat := fun a b => match a, b with
    | [(AV.v (.int .i64 a0)), (AV.v (.int .i64 a1))], [] => some (a0, a1)
    | _, _ => none
  args := fun x => [(AV.v (.int .i64 x.1)), (AV.v (.int .i64 x.2))]
  bs := fun x => []
  ret := fun y => ⟨(AV.v (.int .i64 y)), [], none, [], [], []⟩
  t := fun x α k => (match F49_d3 N (x.1, x.2) with | some y1 => (k y1) | none => none)
noncomputable abbrev F49_d (N : Nat) (x : Int × Int) : Option (Int) := (F49_s N).d x
theorem F49_par3 (N : Nat) : Par (F49_l3 N).b := by
  intro x α β kn ke kn' ke' r r' h h1 h2
  revert h
  dsimp only [F49_l3]
  (repeat' (first | (with_reducible refine par_ite ?_ ?_) | (with_reducible refine par_both ?_ ?_) | split)) <;> intro h <;> first | exact h1 _ h | exact h2 _ h | (cases h; done)
theorem F49_body3 (N : Nat) (x : (F49_l3 N).X) (α : Type) (kn : AS → Option α) (ke : Out → Option α) : around (tabOf Tryd.prog) (F49_g N) F49_an (lam N [(3, F49_l3 N)]) 3 (bodyOf (nthLoop 3 (Tryd.f49.body.getD .skip))) ((F49_l3 N).st x) kn ke = (F49_l3 N).b x α (fun x' => kn ((F49_l3 N).st x')) (fun y => (F49_l3 N).sp y α ke) := by kernel_rfl
theorem F49_pat3 (N : Nat) (s : AS) (x : (F49_l3 N).X) (hc : s = canon (F49_an 3).1 s) (h : (F49_l3 N).p s = some x) : s = (F49_l3 N).st x := by
  dsimp only [F49_l3] at h
  split at h
  · cases h
    exact canon_mk hc ‹_› ‹_› rfl rfl rfl ⟨‹_›, ‹_›, trivial⟩ trivial
  · cases h
theorem F49_loop3 (N : Nat) : ∀ s o, s = canon (F49_an 3).1 s → (lam N [(3, F49_l3 N)]).v 3 s = some o → LoopSem Tryd.prog (nthLoop 3 (Tryd.f49.body.getD .skip)) s o :=
  loop_ok (tabOf_ok Tryd.prog) (gam_ok _) mixed F49_an N [(3, F49_l3 N)] 3 (bodyOf (nthLoop 3 (Tryd.f49.body.getD .skip))) (nthLoop 3 (Tryd.f49.body.getD .skip)) (by kernel_rfl) (by
    have e : actOf F49_an (bodyOf (nthLoop 3 (Tryd.f49.body.getD .skip))) (3 + 1) = [] := by kernel_rfl
    rw [e]
    intro p hp
    cases hp) (F49_l3 N) rfl (fun s x hc h => F49_pat3 N s x hc h) (fun x => rfl) (fun x α kn ke => (F49_body3 N x α kn ke).trans (congrArg ((F49_l3 N).b x α _) (funext fun y => (F49_l3 N).spe y α ke))) (F49_par3 N)
theorem F49_parF (N : Nat) : ParF (F49_s N).t := by
  intro x α β k k' r r' h h1
  revert h
  dsimp only [F49_s]
  (repeat' (first | (with_reducible refine par_ite ?_ ?_) | (with_reducible refine par_both ?_ ?_) | split)) <;> intro h <;> first | exact h1 _ h | (cases h; done)
theorem F49_text (N : Nat) (x : (F49_s N).X) : acall (tabOf Tryd.prog) (F49_g N) F49_an (lam N [(3, F49_l3 N)]) Tryd.f49 (F49_s N).S ((F49_s N).args x) ((F49_s N).bs x) = (F49_s N).t x Ret (fun y => some ((F49_s N).ret y)) := by kernel_rfl
theorem F49_pat (N : Nat) (a : List AV) (b : List (List AV)) (x : (F49_s N).X) (h : (F49_s N).pat a b = some x) : a = (F49_s N).args x ∧ b = (F49_s N).bs x := by
  dsimp only [F49_s] at h
  split at h
  · cases h; exact ⟨rfl, rfl⟩
  · cases h
noncomputable def F49_e (N : Nat) : Ent Tryd.prog := entOf (tabOf_ok Tryd.prog) (gam_ok _) mixed 49 Tryd.f49 Tryd.func49 rfl F49_an (lam N [(3, F49_l3 N)]) (by
    have e : actOf F49_an (Tryd.f49.body.getD .skip) 0 = [(3, nthLoop 3 (Tryd.f49.body.getD .skip))] := by kernel_rfl
    rw [e]
    intro p hp
    rcases List.mem_cons.1 hp with rfl | hp
    · exact F49_loop3 N
    cases hp) (F49_s N) (fun _ => ⟨rfl, rfl⟩) (F49_text N) (F49_pat N) (F49_parF N)
/-! ### seismonet/seismonetref02.New (function 33) -/
def F33_an : Nat → Keep × Keep := anL []
noncomputable def F33_g (N : Nat) : GamK := gam (P := Tryd.prog) [F30_e N, F49_e N]
noncomputable def F33_s (N : Nat) : FSpec where
  X := Int × Int
  Y := Int × Int × Int
  ash := [[none], [none]]
  bsh := []
  S := ⟨[[none, none], [none]], [], [], [], []⟩
  bm := false
  pat := fun a b => match a, b with
    | [(AV.v (.int .i64 a0)), (AV.v (.int .i64 a1))], [] => some (a0, a1)
    | _, _ => none
  args := fun x => [(AV.v (.int .i64 x.1)), (AV.v (.int .i64 x.2))]
  bs := fun x => []
  ret := fun y => ⟨(AV.tup [(AV.agg [(AV.v (.int .i64 y.1)), (AV.v (.int .i64 y.2.1))]), (AV.v (.int .i64 y.2.2))]), [], none, [], [], []⟩
  t := fun x α k => (match F30_d N (x.1, 1, 4096) with | some y1 => (match (!y1) with | true => (k (0, 0, 2)) | false => (match F30_d N (x.2, 1, 4096) with | some y2 => (match (!y2) with | true => (k (0, 0, 2)) | false => (match F49_d N (x.1, x.2) with | some y3 => (if y3 = 0 then none else (if y3 = 0 then none else (k ((i64 (x.1.tdiv y3)), (i64 (x.2.tdiv y3)), 0)))) | none => none)) | none => none)) | none => none)
noncomputable abbrev F33_d (N : Nat) (x : Int × Int) : Option (Int × Int × Int) := (F33_s N).d x
theorem F33_parF (N : Nat) : ParF (F33_s N).t := by
  intro x α β k k' r r' h h1
  revert h
  dsimp only [F33_s]
  (repeat' (first | (with_reducible refine par_ite ?_ ?_) | (with_reducible refine par_both ?_ ?_) | split)) <;> intro h <;> first | exact h1 _ h | (cases h; done)
theorem F33_text (N : Nat) (x : (F33_s N).X) : acall (tabOf Tryd.prog) (F33_g N) F33_an (lam N []) Tryd.f33 (F33_s N).S ((F33_s N).args x) ((F33_s N).bs x) = (F33_s N).t x Ret (fun y => some ((F33_s N).ret y)) := by kernel_rfl
theorem F33_pat (N : Nat) (a : List AV) (b : List (List AV)) (x : (F33_s N).X) (h : (F33_s N).pat a b = some x) : a = (F33_s N).args x ∧ b = (F33_s N).bs x := by
  dsimp only [F33_s] at h
  split at h
  · cases h; exact ⟨rfl, rfl⟩
  · cases h
noncomputable def F33_e (N : Nat) : Ent Tryd.prog := entOf (tabOf_ok Tryd.prog) (gam_ok _) mixed 33 Tryd.f33 Tryd.func33 rfl F33_an (lam N []) (by
    have e : actOf F33_an (Tryd.f33.body.getD .skip) 0 = [] := by kernel_rfl
    rw [e]
    intro p hp
    cases hp) (F33_s N) (fun _ => ⟨rfl, rfl⟩) (F33_text N) (F33_pat N) (F33_parF N)
/-! ### (*seismonet/seismonetmade.Dice).Rate (function 20) -/
def F20_an : Nat → Keep × Keep := anL []
noncomputable def F20_g (N : Nat) : GamK := gam (P := Tryd.prog) [F19_e N, F33_e N]
noncomputable def F20_s (N : Nat) : FSpec where
  X := (List (List AV)) × Int
  Y := Int × Int × (List (List AV)) × Int
  ash := [[none]]
  bsh := [[some 1, none]]
  S := ⟨[[none, none]], [[some 1, none]], [], [], []⟩
  bm := false
  pat := fun a b => match a, b with
    | [(AV.ptr 0 0)], [[(AV.list 1 a0 none), (AV.v (.int .i64 a1))]] => some (a0, a1)
    | _, _ => none
  args := fun x => [(AV.ptr 0 0)]
  bs := fun x => [[(AV.list 1 x.1 none), (AV.v (.int .i64 x.2))]]
  ret := fun y => ⟨(AV.agg [(AV.v (.int .i64 y.1)), (AV.v (.int .i64 y.2.1))]), [[(AV.list 1 y.2.2.1 none), (AV.v (.int .i64 y.2.2.2))]], none, [], [], []⟩
  t := fun x α k => (match F19_d N ([[(AV.v (.int .i64 1))], [(AV.v (.int .i64 3))], [(AV.v (.int .i64 20))], [(AV.v (.int .i64 100))], [(AV.v (.int .i64 40))], [(AV.v (.int .i64 4096))], [(AV.v (.int .i64 7))]], x.1, x.2) with | some y1 => (match F19_d N ([[(AV.v (.int .i64 1))], [(AV.v (.int .i64 1))], [(AV.v (.int .i64 1))], [(AV.v (.int .i64 3))], [(AV.v (.int .i64 7))], [(AV.v (.int .i64 4096))]], y1.2.1, y1.2.2) with | some y2 => (match F33_d N (y1.1, y2.1) with | some y3 => (k (y3.1, y3.2.1, y2.2.1, y2.2.2)) | none => none) | none => none) | none => none)
noncomputable abbrev F20_d (N : Nat) (x : (List (List AV)) × Int) : Option (Int × Int × (List (List AV)) × Int) := (F20_s N).d x
theorem F20_parF (N : Nat) : ParF (F20_s N).t := by
  intro x α β k k' r r' h h1
  revert h
  dsimp only [F20_s]
  (repeat' (first | (with_reducible refine par_ite ?_ ?_) | (with_reducible refine par_both ?_ ?_) | split)) <;> intro h <;> first | exact h1 _ h | (cases h; done)
theorem F20_text (N : Nat) (x : (F20_s N).X) : acall (tabOf Tryd.prog) (F20_g N) F20_an (lam N []) Tryd.f20 (F20_s N).S ((F20_s N).args x) ((F20_s N).bs x) = (F20_s N).t x Ret (fun y => some ((F20_s N).ret y)) := by kernel_rfl
theorem F20_pat (N : Nat) (a : List AV) (b : List (List AV)) (x : (F20_s N).X) (h : (F20_s N).pat a b = some x) : a = (F20_s N).args x ∧ b = (F20_s N).bs x := by
  dsimp only [F20_s] at h
  split at h
  · cases h; exact ⟨rfl, rfl⟩
  · cases h
noncomputable def F20_e (N : Nat) : Ent Tryd.prog := entOf (tabOf_ok Tryd.prog) (gam_ok _) mixed 20 Tryd.f20 Tryd.func20 rfl F20_an (lam N []) (by
    have e : actOf F20_an (Tryd.f20.body.getD .skip) 0 = [] := by kernel_rfl
    rw [e]
    intro p hp
    cases hp) (F20_s N) (fun _ => ⟨rfl, rfl⟩) (F20_text N) (F20_pat N) (F20_parF N)
/-! ### (*seismonet/seismonetmade.Dice).Samples (function 21) -/
def F21_an : Nat → Keep × Keep := anL [(6, ⟨[0, 6, 7], [(5, 1)], [0], [], [], [], [], [], false⟩, ⟨[], [(5, 1)], [0], [], [], [], [], [], false⟩)]
noncomputable def F21_g (N : Nat) : GamK := gam (P := Tryd.prog) [F19_e N, F15_e N]
noncomputable def F21_l6 (N : Nat) : LSpec where
  X := (List (List AV)) × Int × Int × (List (List AV)) × Int
  Y := ((List (List AV)) × (List (List AV)) × Int)
  p := fun s => match s.env.length, s.nin, s.at 5, s.at 0, s.at 6, s.at 7, s.bx 0 with
    | 53, 1, (AV.list 1 a0 (some 1280000320)), (AV.ptr 0 0), (AV.v (.int .i64 a1)), (AV.v (.int .i64 a2)), some [(AV.list 1 a3 none), (AV.v (.int .i64 a4))] => some (a0, a1, a2, a3, a4)
    | _, _, _, _, _, _, _ => none
  st := fun x => mkS 53 [(5, (AV.list 1 x.1 (some 1280000320))), (0, (AV.ptr 0 0)), (6, (AV.v (.int .i64 x.2.1))), (7, (AV.v (.int .i64 x.2.2.1)))] [(0, [(AV.list 1 x.2.2.2.1 none), (AV.v (.int .i64 x.2.2.2.2))])] (F21_an 6).1.toks 1
  out := fun y => (.exit 0, mkS 53 [(5, (AV.list 1 y.1 (some 1280000320)))] [(0, [(AV.list 1 y.2.1 none), (AV.v (.int .i64 y.2.2))])] (F21_an 6).2.toks 1)
  sp := fun y α k => k (.exit 0, mkS 53 [(5, (AV.list 1 y.1 (some 1280000320)))] [(0, [(AV.list 1 y.2.1 none), (AV.v (.int .i64 y.2.2))])] (F21_an 6).2.toks 1)
  spe := fun y α k => rfl
  b := fun x α kn ke => (match (decide (x.2.2.1 > 0)) with | true => (match F15_d N (10, x.2.2.2.1, x.2.2.2.2) with | some y8 => (match (y8.1 == 0) with | true => (match F19_d N ([[(AV.v (.int .i64 127))], [(AV.v (.int .i64 128))], [(AV.v (.int .i64 (-128)))], [(AV.v (.int .i64 (-129)))], [(AV.v (.int .i64 300))]], y8.2.1, y8.2.2) with | some y9 => (if (x.1.length + [[(AV.v (.int .i64 (if 1073741823 < (if (-1073741823) > (i64 (x.2.1 + y9.1)) then (-1073741823) else (i64 (x.2.1 + y9.1))) then 1073741823 else (if (-1073741823) > (i64 (x.2.1 + y9.1)) then (-1073741823) else (i64 (x.2.1 + y9.1))))))]].length) * 8 ≤ maxBytes then (kn ((x.1 ++ [[(AV.v (.int .i64 (if 1073741823 < (if (-1073741823) > (i64 (x.2.1 + y9.1)) then (-1073741823) else (i64 (x.2.1 + y9.1))) then 1073741823 else (if (-1073741823) > (i64 (x.2.1 + y9.1)) then (-1073741823) else (i64 (x.2.1 + y9.1))))))]]), (if 1073741823 < (if (-1073741823) > (i64 (x.2.1 + y9.1)) then (-1073741823) else (i64 (x.2.1 + y9.1))) then 1073741823 else (if (-1073741823) > (i64 (x.2.1 + y9.1)) then (-1073741823) else (i64 (x.2.1 + y9.1)))), (i64 (x.2.2.1 - 1)), y9.2.1, y9.2.2)) else none) | none => none) | false => (match (y8.1 == 1) with | true => (match F19_d N ([[(AV.v (.int .i64 32767))], [(AV.v (.int .i64 32768))], [(AV.v (.int .i64 (-32768)))], [(AV.v (.int .i64 (-32769)))]], y8.2.1, y8.2.2) with | some y10 => (if (x.1.length + [[(AV.v (.int .i64 (if 1073741823 < (if (-1073741823) > (i64 (x.2.1 + y10.1)) then (-1073741823) else (i64 (x.2.1 + y10.1))) then 1073741823 else (if (-1073741823) > (i64 (x.2.1 + y10.1)) then (-1073741823) else (i64 (x.2.1 + y10.1))))))]].length) * 8 ≤ maxBytes then (kn ((x.1 ++ [[(AV.v (.int .i64 (if 1073741823 < (if (-1073741823) > (i64 (x.2.1 + y10.1)) then (-1073741823) else (i64 (x.2.1 + y10.1))) then 1073741823 else (if (-1073741823) > (i64 (x.2.1 + y10.1)) then (-1073741823) else (i64 (x.2.1 + y10.1))))))]]), (if 1073741823 < (if (-1073741823) > (i64 (x.2.1 + y10.1)) then (-1073741823) else (i64 (x.2.1 + y10.1))) then 1073741823 else (if (-1073741823) > (i64 (x.2.1 + y10.1)) then (-1073741823) else (i64 (x.2.1 + y10.1)))), (i64 (x.2.2.1 - 1)), y10.2.1, y10.2.2)) else none) | none => none) | false => (match (y8.1 == 2) with | true => (match F19_d N ([[(AV.v (.int .i64 0))], [(AV.v (.int .i64 1073741823))], [(AV.v (.int .i64 (-1073741823)))], [(AV.v (.int .i64 536870912))]], y8.2.1, y8.2.2) with | some y11 => (if (x.1.length + [[(AV.v (.int .i64 (if 1073741823 < (if (-1073741823) > y11.1 then (-1073741823) else y11.1) then 1073741823 else (if (-1073741823) > y11.1 then (-1073741823) else y11.1))))]].length) * 8 ≤ maxBytes then (kn ((x.1 ++ [[(AV.v (.int .i64 (if 1073741823 < (if (-1073741823) > y11.1 then (-1073741823) else y11.1) then 1073741823 else (if (-1073741823) > y11.1 then (-1073741823) else y11.1))))]]), (if 1073741823 < (if (-1073741823) > y11.1 then (-1073741823) else y11.1) then 1073741823 else (if (-1073741823) > y11.1 then (-1073741823) else y11.1)), (i64 (x.2.2.1 - 1)), y11.2.1, y11.2.2)) else none) | none => none) | false => (match F15_d N (9, y8.2.1, y8.2.2) with | some y12 => (if (x.1.length + [[(AV.v (.int .i64 (if 1073741823 < (if (-1073741823) > (i64 (x.2.1 + (i64 (y12.1 - 4)))) then (-1073741823) else (i64 (x.2.1 + (i64 (y12.1 - 4))))) then 1073741823 else (if (-1073741823) > (i64 (x.2.1 + (i64 (y12.1 - 4)))) then (-1073741823) else (i64 (x.2.1 + (i64 (y12.1 - 4))))))))]].length) * 8 ≤ maxBytes then (kn ((x.1 ++ [[(AV.v (.int .i64 (if 1073741823 < (if (-1073741823) > (i64 (x.2.1 + (i64 (y12.1 - 4)))) then (-1073741823) else (i64 (x.2.1 + (i64 (y12.1 - 4))))) then 1073741823 else (if (-1073741823) > (i64 (x.2.1 + (i64 (y12.1 - 4)))) then (-1073741823) else (i64 (x.2.1 + (i64 (y12.1 - 4))))))))]]), (if 1073741823 < (if (-1073741823) > (i64 (x.2.1 + (i64 (y12.1 - 4)))) then (-1073741823) else (i64 (x.2.1 + (i64 (y12.1 - 4))))) then 1073741823 else (if (-1073741823) > (i64 (x.2.1 + (i64 (y12.1 - 4)))) then (-1073741823) else (i64 (x.2.1 + (i64 (y12.1 - 4)))))), (i64 (x.2.2.1 - 1)), y12.2.1, y12.2.2)) else none) | none => none)))) | none => none) | false => (ke (x.1, x.2.2.2.1, x.2.2.2.2)))
noncomputable abbrev F21_d6 (N : Nat) (x : (List (List AV)) × Int × Int × (List (List AV)) × Int) : Option (((List (List AV)) × (List (List AV)) × Int)) := (F21_l6 N).L N x
noncomputable def F21_s (N : Nat) : FSpec where
  X := Int × (List (List AV)) × Int
  Y := (List (List AV)) × (List (List AV)) × Int
  ash := [[none], [none]]
  bsh := [[some 1, none]]
  S := ⟨[[some 2000001]], [[some 1, none]], [], [], []⟩
  bm := false
  pat := fun a b => match a, b with
    | [(AV.ptr 0 0), (AV.v (.int .i64 a0))], [[(AV.list 1 a1 none), (AV.v (.int .i64 a2))]] => some (a0, a1, a2)
    | _, _ => none
  args := fun x => [(AV.ptr 0 0), (AV.v (.int .i64 x.1))]
  bs := fun x => [[(AV.list 1 x.2.1 none), (AV.v (.int .i64 x.2.2))]]
  ret := fun y => ⟨(AV.list 1 y.1 (some 2560000000)), [[(AV.list 1 y.2.1 none), (AV.v (.int .i64 y.2.2))]], none, [], [2560000000], []⟩
  t := fun x α k => (match F19_d N ([[(AV.v (.int .i64 0))], [(AV.v (.int .i64 5))], [(AV.v (.int .i64 (-100)))], [(AV.v (.int .i64 1000))]], x.2.1, x.2.2) with | some y1 => (match F15_d N (x.1, y1.2.1, y1.2.2) with | some y2 => (match F21_d6 N (([] : List (List AV)), y1.1, (i64 (1 + y2.1)), y2.2.1, y2.2.2) with | some y13 => (k (y13.1, y13.2.1, y13.2.2)) | none => none) | none => none) | none => none)
noncomputable abbrev F21_d (N : Nat) (x : Int × (List (List AV)) × Int) : Option ((List (List AV)) × (List (List AV)) × Int) := (F21_s N).d x
theorem F21_par6 (N : Nat) : Par (F21_l6 N).b := by
  intro x α β kn ke kn' ke' r r' h h1 h2
  revert h
  dsimp only [F21_l6]
  (repeat' (first | (with_reducible refine par_ite ?_ ?_) | (with_reducible refine par_both ?_ ?_) | split)) <;> intro h <;> first | exact h1 _ h | exact h2 _ h | (cases h; done)
theorem F21_body6 (N : Nat) (x : (F21_l6 N).X) (α : Type) (kn : AS → Option α) (ke : Out → Option α) : around (tabOf Tryd.prog) (F21_g N) F21_an (lam N [(6, F21_l6 N)]) 6 (bodyOf (nthLoop 6 (Tryd.f21.body.getD .skip))) ((F21_l6 N).st x) kn ke = (F21_l6 N).b x α (fun x' => kn ((F21_l6 N).st x')) (fun y => (F21_l6 N).sp y α ke) := by kernel_rfl
theorem F21_pat6 (N : Nat) (s : AS) (x : (F21_l6 N).X) (hc : s = canon (F21_an 6).1 s) (h : (F21_l6 N).p s = some x) : s = (F21_l6 N).st x := by
  dsimp only [F21_l6] at h
  split at h
  · cases h
    exact canon_mk hc ‹_› ‹_› rfl rfl rfl ⟨‹_›, ‹_›, ‹_›, ‹_›, trivial⟩ ⟨‹_›, trivial⟩
  · cases h
theorem F21_loop6 (N : Nat) : ∀ s o, s = canon (F21_an 6).1 s → (lam N [(6, F21_l6 N)]).v 6 s = some o → LoopSem Tryd.prog (nthLoop 6 (Tryd.f21.body.getD .skip)) s o :=
  loop_ok (tabOf_ok Tryd.prog) (gam_ok _) mixed F21_an N [(6, F21_l6 N)] 6 (bodyOf (nthLoop 6 (Tryd.f21.body.getD .skip))) (nthLoop 6 (Tryd.f21.body.getD .skip)) (by kernel_rfl) (by
    have e : actOf F21_an (bodyOf (nthLoop 6 (Tryd.f21.body.getD .skip))) (6 + 1) = [] := by kernel_rfl
    rw [e]
    intro p hp
    cases hp) (F21_l6 N) rfl (fun s x hc h => F21_pat6 N s x hc h) (fun x => rfl) (fun x α kn ke => (F21_body6 N x α kn ke).trans (congrArg ((F21_l6 N).b x α _) (funext fun y => (F21_l6 N).spe y α ke))) (F21_par6 N)
theorem F21_parF (N : Nat) : ParF (F21_s N).t := by
  intro x α β k k' r r' h h1
  revert h
  dsimp only [F21_s]
  (repeat' (first | (with_reducible refine par_ite ?_ ?_) | (with_reducible refine par_both ?_ ?_) | split)) <;> intro h <;> first | exact h1 _ h | (cases h; done)
theorem F21_text (N : Nat) (x : (F21_s N).X) : acall (tabOf Tryd.prog) (F21_g N) F21_an (lam N [(6, F21_l6 N)]) Tryd.f21 (F21_s N).S ((F21_s N).args x) ((F21_s N).bs x) = (F21_s N).t x Ret (fun y => some ((F21_s N).ret y)) := by kernel_rfl
theorem F21_pat (N : Nat) (a : List AV) (b : List (List AV)) (x : (F21_s N).X) (h : (F21_s N).pat a b = some x) : a = (F21_s N).args x ∧ b = (F21_s N).bs x := by
  dsimp only [F21_s] at h
  split at h
  · cases h; exact ⟨rfl, rfl⟩
  · cases h
noncomputable def F21_e (N : Nat) : Ent Tryd.prog := entOf (tabOf_ok Tryd.prog) (gam_ok _) mixed 21 Tryd.f21 Tryd.func21 rfl F21_an (lam N [(6, F21_l6 N)]) (by
    have e : actOf F21_an (Tryd.f21.body.getD .skip) 0 = [(6, nthLoop 6 (Tryd.f21.body.getD .skip))] := by kernel_rfl
    rw [e]
    intro p hp
    rcases List.mem_cons.1 hp with rfl | hp
    · exact F21_loop6 N
    cases hp) (F21_s N) (fun _ => ⟨rfl, rfl⟩) (F21_text N) (F21_pat N) (F21_parF N)
/-! ### (*seismonet/seismonetmade.Dice).Packet (function 9) -/
def F9_an : Nat → Keep × Keep := anL []
noncomputable def F9_g (N : Nat) : GamK := gam (P := Tryd.prog) [F18_e N, F19_e N, F20_e N, F15_e N, F21_e N]
noncomputable def F9_s (N : Nat) : FSpec where
  X := (List (List AV)) × Int
  Y := ByteArray × ByteArray × ByteArray × ByteArray × Int × Int × Int × Int × Int × Int × Int × (List (List AV)) × (List (List AV)) × Int
  ash := [[none]]
  bsh := [[some 1, none]]
  S := ⟨[[none, none, none, none, none, none, none, none, none, none, none, some 1]], [[some 1, none]], [], [], []⟩
  bm := false
  pat := fun a b => match a, b with
    | [(AV.ptr 0 0)], [[(AV.list 1 a0 none), (AV.v (.int .i64 a1))]] => some (a0, a1)
    | _, _ => none
  args := fun x => [(AV.ptr 0 0)]
  bs := fun x => [[(AV.list 1 x.1 none), (AV.v (.int .i64 x.2))]]
  ret := fun y => ⟨(AV.agg [(AV.v (.string y.1)), (AV.v (.string y.2.1)), (AV.v (.string y.2.2.1)), (AV.v (.string y.2.2.2.1)), (AV.v (.int .i64 y.2.2.2.2.1)), (AV.v (.int .i64 y.2.2.2.2.2.1)), (AV.v (.int .i64 y.2.2.2.2.2.2.1)), (AV.v (.int .i64 y.2.2.2.2.2.2.2.1)), (AV.v (.int .i64 y.2.2.2.2.2.2.2.2.1)), (AV.v (.int .i64 y.2.2.2.2.2.2.2.2.2.1)), (AV.v (.int .i64 y.2.2.2.2.2.2.2.2.2.2.1)), (AV.list 1 y.2.2.2.2.2.2.2.2.2.2.2.1 none)]), [[(AV.list 1 y.2.2.2.2.2.2.2.2.2.2.2.2.1 none), (AV.v (.int .i64 y.2.2.2.2.2.2.2.2.2.2.2.2.2))]], none, [], [], []⟩
  t := fun x α k => (match F18_d N (x.1, x.2) with | some y1 => (match F19_d N ([[(AV.v (.int .i64 0))], [(AV.v (.int .i64 1))], [(AV.v (.int .i64 65535))]], y1.2.2.2.2.1, y1.2.2.2.2.2) with | some y2 => (match F19_d N ([[(AV.v (.int .i64 0))], [(AV.v (.int .i64 7))], [(AV.v (.int .i64 1073741824))]], y2.2.1, y2.2.2) with | some y3 => (match F19_d N ([[(AV.v (.int .i64 0))], [(AV.v (.int .i64 1000000000000))], [(AV.v (.int .i64 9007199254740992))]], y3.2.1, y3.2.2) with | some y4 => (match F20_d N (y4.2.1, y4.2.2) with | some y5 => (match F15_d N (3, y5.2.2.1, y5.2.2.2) with | some y6 => (match F19_d N ([[(AV.v (.int .i64 0))], [(AV.v (.int .i64 50))], [(AV.v (.int .i64 1099511627776))]], y6.2.1, y6.2.2) with | some y7 => (match F21_d N (24, y7.2.1, y7.2.2) with | some y8 => (k (y1.1, y1.2.1, y1.2.2.1, y1.2.2.2.1, y2.1, y3.1, y4.1, y5.1, y5.2.1, y6.1, y7.1, y8.1, y8.2.1, y8.2.2)) | none => none) | none => none) | none => none) | none => none) | none => none) | none => none) | none => none) | none => none)
noncomputable abbrev F9_d (N : Nat) (x : (List (List AV)) × Int) : Option (ByteArray × ByteArray × ByteArray × ByteArray × Int × Int × Int × Int × Int × Int × Int × (List (List AV)) × (List (List AV)) × Int) := (F9_s N).d x
theorem F9_parF (N : Nat) : ParF (F9_s N).t := by
  intro x α β k k' r r' h h1
  revert h
  dsimp only [F9_s]
  (repeat' (first | (with_reducible refine par_ite ?_ ?_) | (with_reducible refine par_both ?_ ?_) | split)) <;> intro h <;> first | exact h1 _ h | (cases h; done)
theorem F9_text (N : Nat) (x : (F9_s N).X) : acall (tabOf Tryd.prog) (F9_g N) F9_an (lam N []) Tryd.f9 (F9_s N).S ((F9_s N).args x) ((F9_s N).bs x) = (F9_s N).t x Ret (fun y => some ((F9_s N).ret y)) := by kernel_rfl
theorem F9_pat (N : Nat) (a : List AV) (b : List (List AV)) (x : (F9_s N).X) (h : (F9_s N).pat a b = some x) : a = (F9_s N).args x ∧ b = (F9_s N).bs x := by
  dsimp only [F9_s] at h
  split at h
  · cases h; exact ⟨rfl, rfl⟩
  · cases h
noncomputable def F9_e (N : Nat) : Ent Tryd.prog := entOf (tabOf_ok Tryd.prog) (gam_ok _) mixed 9 Tryd.f9 Tryd.func9 rfl F9_an (lam N []) (by
    have e : actOf F9_an (Tryd.f9.body.getD .skip) 0 = [] := by kernel_rfl
    rw [e]
    intro p hp
    cases hp) (F9_s N) (fun _ => ⟨rfl, rfl⟩) (F9_text N) (F9_pat N) (F9_parF N)
/-! ### seismonet/packet.Record (function 16) -/
def F16_an : Nat → Keep × Keep := anL []
noncomputable def F16_g (N : Nat) : GamK := gam (P := Tryd.prog) [F17_e N]
noncomputable def F16_s (N : Nat) : FSpec where
  X := ByteArray × ByteArray × ByteArray × ByteArray × Int × Int × Int × Int × Int × Int × Int × (List (List AV))
  Y := ByteArray × ByteArray × ByteArray × ByteArray × Int × Int × Int × Int × Int × Int × Int × (List (List AV)) × Int
  ash := [[none, none, none, none, none, none, none, none, none, none, none, some 1]]
  bsh := []
  S := ⟨[[none, none, none, none, none, none, none, none, none, none, none, some 1], [none]], [], [], [], []⟩
  bm := false
  pat := fun a b => match a, b with
    | [(AV.agg [(AV.v (.string a0)), (AV.v (.string a1)), (AV.v (.string a2)), (AV.v (.string a3)), (AV.v (.int .i64 a4)), (AV.v (.int .i64 a5)), (AV.v (.int .i64 a6)), (AV.v (.int .i64 a7)), (AV.v (.int .i64 a8)), (AV.v (.int .i64 a9)), (AV.v (.int .i64 a10)), (AV.list 1 a11 none)])], [] => some (a0, a1, a2, a3, a4, a5, a6, a7, a8, a9, a10, a11)
    | _, _ => none
  args := fun x => [(AV.agg [(AV.v (.string x.1)), (AV.v (.string x.2.1)), (AV.v (.string x.2.2.1)), (AV.v (.string x.2.2.2.1)), (AV.v (.int .i64 x.2.2.2.2.1)), (AV.v (.int .i64 x.2.2.2.2.2.1)), (AV.v (.int .i64 x.2.2.2.2.2.2.1)), (AV.v (.int .i64 x.2.2.2.2.2.2.2.1)), (AV.v (.int .i64 x.2.2.2.2.2.2.2.2.1)), (AV.v (.int .i64 x.2.2.2.2.2.2.2.2.2.1)), (AV.v (.int .i64 x.2.2.2.2.2.2.2.2.2.2.1)), (AV.list 1 x.2.2.2.2.2.2.2.2.2.2.2 none)])]
  bs := fun x => []
  ret := fun y => ⟨(AV.tup [(AV.agg [(AV.v (.string y.1)), (AV.v (.string y.2.1)), (AV.v (.string y.2.2.1)), (AV.v (.string y.2.2.2.1)), (AV.v (.int .i64 y.2.2.2.2.1)), (AV.v (.int .i64 y.2.2.2.2.2.1)), (AV.v (.int .i64 y.2.2.2.2.2.2.1)), (AV.v (.int .i64 y.2.2.2.2.2.2.2.1)), (AV.v (.int .i64 y.2.2.2.2.2.2.2.2.1)), (AV.v (.int .i64 y.2.2.2.2.2.2.2.2.2.1)), (AV.v (.int .i64 y.2.2.2.2.2.2.2.2.2.2.1)), (AV.list 1 y.2.2.2.2.2.2.2.2.2.2.2.1 none)]), (AV.v (.int .i64 y.2.2.2.2.2.2.2.2.2.2.2.2))]), [], none, [], [], []⟩
  t := fun x α k => (match F17_d N (x.1, x.2.1, x.2.2.1, x.2.2.2.1, x.2.2.2.2.1, x.2.2.2.2.2.1, x.2.2.2.2.2.2.1, x.2.2.2.2.2.2.2.1, x.2.2.2.2.2.2.2.2.1, x.2.2.2.2.2.2.2.2.2.1, x.2.2.2.2.2.2.2.2.2.2.1, x.2.2.2.2.2.2.2.2.2.2.2) with | some y1 => (match (!y1) with | true => (k ((⟨#[]⟩ : ByteArray), (⟨#[]⟩ : ByteArray), (⟨#[]⟩ : ByteArray), (⟨#[]⟩ : ByteArray), 0, 0, 0, 0, 0, 0, 0, ([] : List (List AV)), 1)) | false => (match (x.2.2.2.2.2.2.2.2.2.1 == 2) with | true => (if x.2.2.2.2.2.2.2.2.2.2.2.length * 8 ≤ maxBytes then (k (x.1, x.2.1, x.2.2.1, x.2.2.2.1, x.2.2.2.2.2.2.1, 0, x.2.2.2.2.2.2.2.1, x.2.2.2.2.2.2.2.2.1, 1099511627776, x.2.2.2.2.1, x.2.2.2.2.2.1, x.2.2.2.2.2.2.2.2.2.2.2, 0)) else none) | false => (if x.2.2.2.2.2.2.2.2.2.2.2.length * 8 ≤ maxBytes then (k (x.1, x.2.1, x.2.2.1, x.2.2.2.1, x.2.2.2.2.2.2.1, 0, x.2.2.2.2.2.2.2.1, x.2.2.2.2.2.2.2.2.1, x.2.2.2.2.2.2.2.2.2.2.1, x.2.2.2.2.1, x.2.2.2.2.2.1, x.2.2.2.2.2.2.2.2.2.2.2, 0)) else none))) | none => none)
noncomputable abbrev F16_d (N : Nat) (x : ByteArray × ByteArray × ByteArray × ByteArray × Int × Int × Int × Int × Int × Int × Int × (List (List AV))) : Option (ByteArray × ByteArray × ByteArray × ByteArray × Int × Int × Int × Int × Int × Int × Int × (List (List AV)) × Int) := (F16_s N).d x
theorem F16_parF (N : Nat) : ParF (F16_s N).t := by
  intro x α β k k' r r' h h1
  revert h
  dsimp only [F16_s]
  (repeat' (first | (with_reducible refine par_ite ?_ ?_) | (with_reducible refine par_both ?_ ?_) | split)) <;> intro h <;> first | exact h1 _ h | (cases h; done)
theorem F16_text (N : Nat) (x : (F16_s N).X) : acall (tabOf Tryd.prog) (F16_g N) F16_an (lam N []) Tryd.f16 (F16_s N).S ((F16_s N).args x) ((F16_s N).bs x) = (F16_s N).t x Ret (fun y => some ((F16_s N).ret y)) := by kernel_rfl
theorem F16_pat (N : Nat) (a : List AV) (b : List (List AV)) (x : (F16_s N).X) (h : (F16_s N).pat a b = some x) : a = (F16_s N).args x ∧ b = (F16_s N).bs x := by
  dsimp only [F16_s] at h
  split at h
  · cases h; exact ⟨rfl, rfl⟩
  · cases h
noncomputable def F16_e (N : Nat) : Ent Tryd.prog := entOf (tabOf_ok Tryd.prog) (gam_ok _) mixed 16 Tryd.f16 Tryd.func16 rfl F16_an (lam N []) (by
    have e : actOf F16_an (Tryd.f16.body.getD .skip) 0 = [] := by kernel_rfl
    rw [e]
    intro p hp
    cases hp) (F16_s N) (fun _ => ⟨rfl, rfl⟩) (F16_text N) (F16_pat N) (F16_parF N)
/-! ### seismonet/seismonetlaw07.PacketRecords (function 5) -/
def F5_an : Nat → Keep × Keep := anL [(14, ⟨[3, 4, 72, 73], [], [3, 4], [], [], [], [], [], false⟩, ⟨[2, 3, 4], [], [3, 4], [], [], [], [], [], false⟩)]
noncomputable def F5_g (N : Nat) : GamK := gam (P := Tryd.prog) [F6_e N, F7_e N, F8_e N, F9_e N, F16_e N]
noncomputable def F5_l14 (N : Nat) : LSpec where
  X := Int × Int × ByteArray × ByteArray × ByteArray × ByteArray × Int × Int × Int × Int × Int × Int × Int × (List (List AV)) × ByteArray × ByteArray × ByteArray × ByteArray × Int × Int × Int × Int × Int × Int × Int × (List (List AV))
  Y := (Bool × ByteArray × ByteArray × ByteArray × ByteArray × Int × Int × Int × Int × Int × Int × Int × (List (List AV)) × ByteArray × ByteArray × ByteArray × ByteArray × Int × Int × Int × Int × Int × Int × Int × (List (List AV))) ⊕ (ByteArray × ByteArray × ByteArray × ByteArray × Int × Int × Int × Int × Int × Int × Int × (List (List AV)) × ByteArray × ByteArray × ByteArray × ByteArray × Int × Int × Int × Int × Int × Int × Int × (List (List AV)))
  p := fun s => match s.env.length, s.nin, s.at 3, s.at 4, s.at 72, s.at 73, s.bx 3, s.bx 4 with
    | 107, 0, (AV.ptr 3 0), (AV.ptr 4 0), (AV.v (.int .i64 a0)), (AV.v (.int .i64 a1)), some [(AV.v (.string a2)), (AV.v (.string a3)), (AV.v (.string a4)), (AV.v (.string a5)), (AV.v (.int .i64 a6)), (AV.v (.int .i64 a7)), (AV.v (.int .i64 a8)), (AV.v (.int .i64 a9)), (AV.v (.int .i64 a10)), (AV.v (.int .i64 a11)), (AV.v (.int .i64 a12)), (AV.list 1 a13 none)], some [(AV.v (.string a14)), (AV.v (.string a15)), (AV.v (.string a16)), (AV.v (.string a17)), (AV.v (.int .i64 a18)), (AV.v (.int .i64 a19)), (AV.v (.int .i64 a20)), (AV.v (.int .i64 a21)), (AV.v (.int .i64 a22)), (AV.v (.int .i64 a23)), (AV.v (.int .i64 a24)), (AV.list 1 a25 none)] => some (a0, a1, a2, a3, a4, a5, a6, a7, a8, a9, a10, a11, a12, a13, a14, a15, a16, a17, a18, a19, a20, a21, a22, a23, a24, a25)
    | _, _, _, _, _, _, _, _ => none
  st := fun x => mkS 107 [(3, (AV.ptr 3 0)), (4, (AV.ptr 4 0)), (72, (AV.v (.int .i64 x.1))), (73, (AV.v (.int .i64 x.2.1)))] [(3, [(AV.v (.string x.2.2.1)), (AV.v (.string x.2.2.2.1)), (AV.v (.string x.2.2.2.2.1)), (AV.v (.string x.2.2.2.2.2.1)), (AV.v (.int .i64 x.2.2.2.2.2.2.1)), (AV.v (.int .i64 x.2.2.2.2.2.2.2.1)), (AV.v (.int .i64 x.2.2.2.2.2.2.2.2.1)), (AV.v (.int .i64 x.2.2.2.2.2.2.2.2.2.1)), (AV.v (.int .i64 x.2.2.2.2.2.2.2.2.2.2.1)), (AV.v (.int .i64 x.2.2.2.2.2.2.2.2.2.2.2.1)), (AV.v (.int .i64 x.2.2.2.2.2.2.2.2.2.2.2.2.1)), (AV.list 1 x.2.2.2.2.2.2.2.2.2.2.2.2.2.1 none)]), (4, [(AV.v (.string x.2.2.2.2.2.2.2.2.2.2.2.2.2.2.1)), (AV.v (.string x.2.2.2.2.2.2.2.2.2.2.2.2.2.2.2.1)), (AV.v (.string x.2.2.2.2.2.2.2.2.2.2.2.2.2.2.2.2.1)), (AV.v (.string x.2.2.2.2.2.2.2.2.2.2.2.2.2.2.2.2.2.1)), (AV.v (.int .i64 x.2.2.2.2.2.2.2.2.2.2.2.2.2.2.2.2.2.2.1)), (AV.v (.int .i64 x.2.2.2.2.2.2.2.2.2.2.2.2.2.2.2.2.2.2.2.1)), (AV.v (.int .i64 x.2.2.2.2.2.2.2.2.2.2.2.2.2.2.2.2.2.2.2.2.1)), (AV.v (.int .i64 x.2.2.2.2.2.2.2.2.2.2.2.2.2.2.2.2.2.2.2.2.2.1)), (AV.v (.int .i64 x.2.2.2.2.2.2.2.2.2.2.2.2.2.2.2.2.2.2.2.2.2.2.1)), (AV.v (.int .i64 x.2.2.2.2.2.2.2.2.2.2.2.2.2.2.2.2.2.2.2.2.2.2.2.1)), (AV.v (.int .i64 x.2.2.2.2.2.2.2.2.2.2.2.2.2.2.2.2.2.2.2.2.2.2.2.2.1)), (AV.list 1 x.2.2.2.2.2.2.2.2.2.2.2.2.2.2.2.2.2.2.2.2.2.2.2.2.2 none)])] (F5_an 14).1.toks 0
  out := fun y => match y with
    | .inl y => (.ret, mkS 107 [(2, (AV.v (.bool y.1))), (3, (AV.ptr 3 0)), (4, (AV.ptr 4 0))] [(3, [(AV.v (.string y.2.1)), (AV.v (.string y.2.2.1)), (AV.v (.string y.2.2.2.1)), (AV.v (.string y.2.2.2.2.1)), (AV.v (.int .i64 y.2.2.2.2.2.1)), (AV.v (.int .i64 y.2.2.2.2.2.2.1)), (AV.v (.int .i64 y.2.2.2.2.2.2.2.1)), (AV.v (.int .i64 y.2.2.2.2.2.2.2.2.1)), (AV.v (.int .i64 y.2.2.2.2.2.2.2.2.2.1)), (AV.v (.int .i64 y.2.2.2.2.2.2.2.2.2.2.1)), (AV.v (.int .i64 y.2.2.2.2.2.2.2.2.2.2.2.1)), (AV.list 1 y.2.2.2.2.2.2.2.2.2.2.2.2.1 none)]), (4, [(AV.v (.string y.2.2.2.2.2.2.2.2.2.2.2.2.2.1)), (AV.v (.string y.2.2.2.2.2.2.2.2.2.2.2.2.2.2.1)), (AV.v (.string y.2.2.2.2.2.2.2.2.2.2.2.2.2.2.2.1)), (AV.v (.string y.2.2.2.2.2.2.2.2.2.2.2.2.2.2.2.2.1)), (AV.v (.int .i64 y.2.2.2.2.2.2.2.2.2.2.2.2.2.2.2.2.2.1)), (AV.v (.int .i64 y.2.2.2.2.2.2.2.2.2.2.2.2.2.2.2.2.2.2.1)), (AV.v (.int .i64 y.2.2.2.2.2.2.2.2.2.2.2.2.2.2.2.2.2.2.2.1)), (AV.v (.int .i64 y.2.2.2.2.2.2.2.2.2.2.2.2.2.2.2.2.2.2.2.2.1)), (AV.v (.int .i64 y.2.2.2.2.2.2.2.2.2.2.2.2.2.2.2.2.2.2.2.2.2.1)), (AV.v (.int .i64 y.2.2.2.2.2.2.2.2.2.2.2.2.2.2.2.2.2.2.2.2.2.2.1)), (AV.v (.int .i64 y.2.2.2.2.2.2.2.2.2.2.2.2.2.2.2.2.2.2.2.2.2.2.2.1)), (AV.list 1 y.2.2.2.2.2.2.2.2.2.2.2.2.2.2.2.2.2.2.2.2.2.2.2.2 none)])] (F5_an 14).2.toks 0)
    | .inr y => (.exit 0, mkS 107 [(3, (AV.ptr 3 0)), (4, (AV.ptr 4 0))] [(3, [(AV.v (.string y.1)), (AV.v (.string y.2.1)), (AV.v (.string y.2.2.1)), (AV.v (.string y.2.2.2.1)), (AV.v (.int .i64 y.2.2.2.2.1)), (AV.v (.int .i64 y.2.2.2.2.2.1)), (AV.v (.int .i64 y.2.2.2.2.2.2.1)), (AV.v (.int .i64 y.2.2.2.2.2.2.2.1)), (AV.v (.int .i64 y.2.2.2.2.2.2.2.2.1)), (AV.v (.int .i64 y.2.2.2.2.2.2.2.2.2.1)), (AV.v (.int .i64 y.2.2.2.2.2.2.2.2.2.2.1)), (AV.list 1 y.2.2.2.2.2.2.2.2.2.2.2.1 none)]), (4, [(AV.v (.string y.2.2.2.2.2.2.2.2.2.2.2.2.1)), (AV.v (.string y.2.2.2.2.2.2.2.2.2.2.2.2.2.1)), (AV.v (.string y.2.2.2.2.2.2.2.2.2.2.2.2.2.2.1)), (AV.v (.string y.2.2.2.2.2.2.2.2.2.2.2.2.2.2.2.1)), (AV.v (.int .i64 y.2.2.2.2.2.2.2.2.2.2.2.2.2.2.2.2.1)), (AV.v (.int .i64 y.2.2.2.2.2.2.2.2.2.2.2.2.2.2.2.2.2.1)), (AV.v (.int .i64 y.2.2.2.2.2.2.2.2.2.2.2.2.2.2.2.2.2.2.1)), (AV.v (.int .i64 y.2.2.2.2.2.2.2.2.2.2.2.2.2.2.2.2.2.2.2.1)), (AV.v (.int .i64 y.2.2.2.2.2.2.2.2.2.2.2.2.2.2.2.2.2.2.2.2.1)), (AV.v (.int .i64 y.2.2.2.2.2.2.2.2.2.2.2.2.2.2.2.2.2.2.2.2.2.1)), (AV.v (.int .i64 y.2.2.2.2.2.2.2.2.2.2.2.2.2.2.2.2.2.2.2.2.2.2.1)), (AV.list 1 y.2.2.2.2.2.2.2.2.2.2.2.2.2.2.2.2.2.2.2.2.2.2.2 none)])] (F5_an 14).2.toks 0)
  sp := fun y α k => match y with
    | .inl y => k (.ret, mkS 107 [(2, (AV.v (.bool y.1))), (3, (AV.ptr 3 0)), (4, (AV.ptr 4 0))] [(3, [(AV.v (.string y.2.1)), (AV.v (.string y.2.2.1)), (AV.v (.string y.2.2.2.1)), (AV.v (.string y.2.2.2.2.1)), (AV.v (.int .i64 y.2.2.2.2.2.1)), (AV.v (.int .i64 y.2.2.2.2.2.2.1)), (AV.v (.int .i64 y.2.2.2.2.2.2.2.1)), (AV.v (.int .i64 y.2.2.2.2.2.2.2.2.1)), (AV.v (.int .i64 y.2.2.2.2.2.2.2.2.2.1)), (AV.v (.int .i64 y.2.2.2.2.2.2.2.2.2.2.1)), (AV.v (.int .i64 y.2.2.2.2.2.2.2.2.2.2.2.1)), (AV.list 1 y.2.2.2.2.2.2.2.2.2.2.2.2.1 none)]), (4, [(AV.v (.string y.2.2.2.2.2.2.2.2.2.2.2.2.2.1)), (AV.v (.string y.2.2.2.2.2.2.2.2.2.2.2.2.2.2.1)), (AV.v (.string y.2.2.2.2.2.2.2.2.2.2.2.2.2.2.2.1)), (AV.v (.string y.2.2.2.2.2.2.2.2.2.2.2.2.2.2.2.2.1)), (AV.v (.int .i64 y.2.2.2.2.2.2.2.2.2.2.2.2.2.2.2.2.2.1)), (AV.v (.int .i64 y.2.2.2.2.2.2.2.2.2.2.2.2.2.2.2.2.2.2.1)), (AV.v (.int .i64 y.2.2.2.2.2.2.2.2.2.2.2.2.2.2.2.2.2.2.2.1)), (AV.v (.int .i64 y.2.2.2.2.2.2.2.2.2.2.2.2.2.2.2.2.2.2.2.2.1)), (AV.v (.int .i64 y.2.2.2.2.2.2.2.2.2.2.2.2.2.2.2.2.2.2.2.2.2.1)), (AV.v (.int .i64 y.2.2.2.2.2.2.2.2.2.2.2.2.2.2.2.2.2.2.2.2.2.2.1)), (AV.v (.int .i64 y.2.2.2.2.2.2.2.2.2.2.2.2.2.2.2.2.2.2.2.2.2.2.2.1)), (AV.list 1 y.2.2.2.2.2.2.2.2.2.2.2.2.2.2.2.2.2.2.2.2.2.2.2.2 none)])] (F5_an 14).2.toks 0)
    | .inr y => k (.exit 0, mkS 107 [(3, (AV.ptr 3 0)), (4, (AV.ptr 4 0))] [(3, [(AV.v (.string y.1)), (AV.v (.string y.2.1)), (AV.v (.string y.2.2.1)), (AV.v (.string y.2.2.2.1)), (AV.v (.int .i64 y.2.2.2.2.1)), (AV.v (.int .i64 y.2.2.2.2.2.1)), (AV.v (.int .i64 y.2.2.2.2.2.2.1)), (AV.v (.int .i64 y.2.2.2.2.2.2.2.1)), (AV.v (.int .i64 y.2.2.2.2.2.2.2.2.1)), (AV.v (.int .i64 y.2.2.2.2.2.2.2.2.2.1)), (AV.v (.int .i64 y.2.2.2.2.2.2.2.2.2.2.1)), (AV.list 1 y.2.2.2.2.2.2.2.2.2.2.2.1 none)]), (4, [(AV.v (.string y.2.2.2.2.2.2.2.2.2.2.2.2.1)), (AV.v (.string y.2.2.2.2.2.2.2.2.2.2.2.2.2.1)), (AV.v (.string y.2.2.2.2.2.2.2.2.2.2.2.2.2.2.1)), (AV.v (.string y.2.2.2.2.2.2.2.2.2.2.2.2.2.2.2.1)), (AV.v (.int .i64 y.2.2.2.2.2.2.2.2.2.2.2.2.2.2.2.2.1)), (AV.v (.int .i64 y.2.2.2.2.2.2.2.2.2.2.2.2.2.2.2.2.2.1)), (AV.v (.int .i64 y.2.2.2.2.2.2.2.2.2.2.2.2.2.2.2.2.2.2.1)), (AV.v (.int .i64 y.2.2.2.2.2.2.2.2.2.2.2.2.2.2.2.2.2.2.2.1)), (AV.v (.int .i64 y.2.2.2.2.2.2.2.2.2.2.2.2.2.2.2.2.2.2.2.2.1)), (AV.v (.int .i64 y.2.2.2.2.2.2.2.2.2.2.2.2.2.2.2.2.2.2.2.2.2.1)), (AV.v (.int .i64 y.2.2.2.2.2.2.2.2.2.2.2.2.2.2.2.2.2.2.2.2.2.2.1)), (AV.list 1 y.2.2.2.2.2.2.2.2.2.2.2.2.2.2.2.2.2.2.2.2.2.2.2 none)])] (F5_an 14).2.toks 0)
  spe := fun y α k => by rcases y with _ | _ <;> rfl
  b := fun x α kn ke => (match (decide (x.2.1 < x.1)) with | true => (if 0 ≤ x.2.1 then (match x.2.2.2.2.2.2.2.2.2.2.2.2.2.2.2.2.2.2.2.2.2.2.2.2.2[x.2.1.toNat]? with | some c14 => (match c14[0]? with | some x15 => (match x15 with | .v (.int q17 n16) => (if q17 = .i64 then (if 0 ≤ x.2.1 then (match x.2.2.2.2.2.2.2.2.2.2.2.2.2.1[x.2.1.toNat]? with | some c18 => (match c18[0]? with | some x19 => (match x19 with | .v (.int q21 n20) => (if q21 = .i64 then (match (n16 != n20) with | true => (ke (.inl (false, x.2.2.1, x.2.2.2.1, x.2.2.2.2.1, x.2.2.2.2.2.1, x.2.2.2.2.2.2.1, x.2.2.2.2.2.2.2.1, x.2.2.2.2.2.2.2.2.1, x.2.2.2.2.2.2.2.2.2.1, x.2.2.2.2.2.2.2.2.2.2.1, x.2.2.2.2.2.2.2.2.2.2.2.1, x.2.2.2.2.2.2.2.2.2.2.2.2.1, x.2.2.2.2.2.2.2.2.2.2.2.2.2.1, x.2.2.2.2.2.2.2.2.2.2.2.2.2.2.1, x.2.2.2.2.2.2.2.2.2.2.2.2.2.2.2.1, x.2.2.2.2.2.2.2.2.2.2.2.2.2.2.2.2.1, x.2.2.2.2.2.2.2.2.2.2.2.2.2.2.2.2.2.1, x.2.2.2.2.2.2.2.2.2.2.2.2.2.2.2.2.2.2.1, x.2.2.2.2.2.2.2.2.2.2.2.2.2.2.2.2.2.2.2.1, x.2.2.2.2.2.2.2.2.2.2.2.2.2.2.2.2.2.2.2.2.1, x.2.2.2.2.2.2.2.2.2.2.2.2.2.2.2.2.2.2.2.2.2.1, x.2.2.2.2.2.2.2.2.2.2.2.2.2.2.2.2.2.2.2.2.2.2.1, x.2.2.2.2.2.2.2.2.2.2.2.2.2.2.2.2.2.2.2.2.2.2.2.1, x.2.2.2.2.2.2.2.2.2.2.2.2.2.2.2.2.2.2.2.2.2.2.2.2.1, x.2.2.2.2.2.2.2.2.2.2.2.2.2.2.2.2.2.2.2.2.2.2.2.2.2))) | false => (kn (x.1, (i64 (x.2.1 + 1)), x.2.2.1, x.2.2.2.1, x.2.2.2.2.1, x.2.2.2.2.2.1, x.2.2.2.2.2.2.1, x.2.2.2.2.2.2.2.1, x.2.2.2.2.2.2.2.2.1, x.2.2.2.2.2.2.2.2.2.1, x.2.2.2.2.2.2.2.2.2.2.1, x.2.2.2.2.2.2.2.2.2.2.2.1, x.2.2.2.2.2.2.2.2.2.2.2.2.1, x.2.2.2.2.2.2.2.2.2.2.2.2.2.1, x.2.2.2.2.2.2.2.2.2.2.2.2.2.2.1, x.2.2.2.2.2.2.2.2.2.2.2.2.2.2.2.1, x.2.2.2.2.2.2.2.2.2.2.2.2.2.2.2.2.1, x.2.2.2.2.2.2.2.2.2.2.2.2.2.2.2.2.2.1, x.2.2.2.2.2.2.2.2.2.2.2.2.2.2.2.2.2.2.1, x.2.2.2.2.2.2.2.2.2.2.2.2.2.2.2.2.2.2.2.1, x.2.2.2.2.2.2.2.2.2.2.2.2.2.2.2.2.2.2.2.2.1, x.2.2.2.2.2.2.2.2.2.2.2.2.2.2.2.2.2.2.2.2.2.1, x.2.2.2.2.2.2.2.2.2.2.2.2.2.2.2.2.2.2.2.2.2.2.1, x.2.2.2.2.2.2.2.2.2.2.2.2.2.2.2.2.2.2.2.2.2.2.2.1, x.2.2.2.2.2.2.2.2.2.2.2.2.2.2.2.2.2.2.2.2.2.2.2.2.1, x.2.2.2.2.2.2.2.2.2.2.2.2.2.2.2.2.2.2.2.2.2.2.2.2.2))) else none) | _ => none) | none => none) | none => none) else none) else none) | _ => none) | none => none) | none => none) else none) | false => (ke (.inr (x.2.2.1, x.2.2.2.1, x.2.2.2.2.1, x.2.2.2.2.2.1, x.2.2.2.2.2.2.1, x.2.2.2.2.2.2.2.1, x.2.2.2.2.2.2.2.2.1, x.2.2.2.2.2.2.2.2.2.1, x.2.2.2.2.2.2.2.2.2.2.1, x.2.2.2.2.2.2.2.2.2.2.2.1, x.2.2.2.2.2.2.2.2.2.2.2.2.1, x.2.2.2.2.2.2.2.2.2.2.2.2.2.1, x.2.2.2.2.2.2.2.2.2.2.2.2.2.2.1, x.2.2.2.2.2.2.2.2.2.2.2.2.2.2.2.1, x.2.2.2.2.2.2.2.2.2.2.2.2.2.2.2.2.1, x.2.2.2.2.2.2.2.2.2.2.2.2.2.2.2.2.2.1, x.2.2.2.2.2.2.2.2.2.2.2.2.2.2.2.2.2.2.1, x.2.2.2.2.2.2.2.2.2.2.2.2.2.2.2.2.2.2.2.1, x.2.2.2.2.2.2.2.2.2.2.2.2.2.2.2.2.2.2.2.2.1, x.2.2.2.2.2.2.2.2.2.2.2.2.2.2.2.2.2.2.2.2.2.1, x.2.2.2.2.2.2.2.2.2.2.2.2.2.2.2.2.2.2.2.2.2.2.1, x.2.2.2.2.2.2.2.2.2.2.2.2.2.2.2.2.2.2.2.2.2.2.2.1, x.2.2.2.2.2.2.2.2.2.2.2.2.2.2.2.2.2.2.2.2.2.2.2.2.1, x.2.2.2.2.2.2.2.2.2.2.2.2.2.2.2.2.2.2.2.2.2.2.2.2.2))))
noncomputable abbrev F5_d14 (N : Nat) (x : Int × Int × ByteArray × ByteArray × ByteArray × ByteArray × Int × Int × Int × Int × Int × Int × Int × (List (List AV)) × ByteArray × ByteArray × ByteArray × ByteArray × Int × Int × Int × Int × Int × Int × Int × (List (List AV))) : Option ((Bool × ByteArray × ByteArray × ByteArray × ByteArray × Int × Int × Int × Int × Int × Int × Int × (List (List AV)) × ByteArray × ByteArray × ByteArray × ByteArray × Int × Int × Int × Int × Int × Int × Int × (List (List AV))) ⊕ (ByteArray × ByteArray × ByteArray × ByteArray × Int × Int × Int × Int × Int × Int × Int × (List (List AV)) × ByteArray × ByteArray × ByteArray × ByteArray × Int × Int × Int × Int × Int × Int × Int × (List (List AV)))) := (F5_l14 N).L N x
noncomputable def F5_s (N : Nat) : FSpec where
  X := (List (List AV))
  Y := Bool
  ash := [[some 1]]
  bsh := []
  S := ⟨[[none]], [], [], [], []⟩
  bm := false
  pat := fun a b => match a, b with
    | [(AV.list 1 a0 none)], [] => some a0
    | _, _ => none
  args := fun x => [(AV.list 1 x none)]
  bs := fun x => []
  ret := fun y => ⟨(AV.v (.bool y)), [], none, [], [], []⟩
  t := fun x α k => (match F6_d N x with | some y1 => (match (!y1) with | true => (match F7_d N () with | some y2 => (k y2) | none => none) | false => (match F8_d N x with | some y3 => (match F9_d N (y3.1, y3.2) with | some y4 => (match F16_d N (y4.1, y4.2.1, y4.2.2.1, y4.2.2.2.1, y4.2.2.2.2.1, y4.2.2.2.2.2.1, y4.2.2.2.2.2.2.1, y4.2.2.2.2.2.2.2.1, y4.2.2.2.2.2.2.2.2.1, y4.2.2.2.2.2.2.2.2.2.1, y4.2.2.2.2.2.2.2.2.2.2.1, y4.2.2.2.2.2.2.2.2.2.2.2.1) with | some y5 => (match (y5.2.2.2.2.2.2.2.2.2.2.2.2 != 0) with | true => (k false) | false => (match ((y5.2.2.2.2.2.2.2.2.2.2.2.1.length : Int) != (y4.2.2.2.2.2.2.2.2.2.2.2.1.length : Int)) with | true => (k false) | false => (match (y5.2.2.2.2.1 != y4.2.2.2.2.2.2.1) with | true => (k false) | false => (match (y5.2.2.2.2.2.1 != 0) with | true => (k false) | false => (match (y5.2.2.2.2.2.2.2.2.2.1 != y4.2.2.2.2.1) with | true => (k false) | false => (match (y5.2.2.2.2.2.2.2.2.2.2.1 != y4.2.2.2.2.2.1) with | true => (k false) | false => (match (!((y5.2.2.2.2.2.2.1 == y4.2.2.2.2.2.2.2.1) && ((y5.2.2.2.2.2.2.2.1 == y4.2.2.2.2.2.2.2.2.1) && true))) with | true => (k false) | false => (match (!((y5.1 == y4.1) && ((y5.2.1 == y4.2.1) && ((y5.2.2.1 == y4.2.2.1) && ((y5.2.2.2.1 == y4.2.2.2.1) && true))))) with | true => (k false) | false => (match F5_d14 N ((y5.2.2.2.2.2.2.2.2.2.2.2.1.length : Int), 0, y4.1, y4.2.1, y4.2.2.1, y4.2.2.2.1, y4.2.2.2.2.1, y4.2.2.2.2.2.1, y4.2.2.2.2.2.2.1, y4.2.2.2.2.2.2.2.1, y4.2.2.2.2.2.2.2.2.1, y4.2.2.2.2.2.2.2.2.2.1, y4.2.2.2.2.2.2.2.2.2.2.1, y4.2.2.2.2.2.2.2.2.2.2.2.1, y5.1, y5.2.1, y5.2.2.1, y5.2.2.2.1, y5.2.2.2.2.1, y5.2.2.2.2.2.1, y5.2.2.2.2.2.2.1, y5.2.2.2.2.2.2.2.1, y5.2.2.2.2.2.2.2.2.1, y5.2.2.2.2.2.2.2.2.2.1, y5.2.2.2.2.2.2.2.2.2.2.1, y5.2.2.2.2.2.2.2.2.2.2.2.1) with | some y22 => (match y22 with | .inl z23 => (k z23.1) | .inr z24 => (match (z24.2.2.2.2.2.2.2.2.2.1 == 2) with | true => (match (z24.2.2.2.2.2.2.2.2.2.2.2.2.2.2.2.2.2.2.2.2.1 == 1099511627776) with | true => (match F7_d N () with | some y25 => (k y25) | none => none) | false => (k false)) | false => (match (z24.2.2.2.2.2.2.2.2.2.2.2.2.2.2.2.2.2.2.2.2.1 == z24.2.2.2.2.2.2.2.2.2.2.1) with | true => (match F7_d N () with | some y26 => (k y26) | none => none) | false => (k false)))) | none => none))))))))) | none => none) | none => none) | none => none)) | none => none)
noncomputable abbrev F5_d (N : Nat) (x : (List (List AV))) : Option (Bool) := (F5_s N).d x
theorem F5_par14 (N : Nat) : Par (F5_l14 N).b := by
  intro x α β kn ke kn' ke' r r' h h1 h2
  revert h
  dsimp only [F5_l14]
  (repeat' (first | (with_reducible refine par_ite ?_ ?_) | (with_reducible refine par_both ?_ ?_) | split)) <;> intro h <;> first | exact h1 _ h | exact h2 _ h | (cases h; done)
theorem F5_body14 (N : Nat) (x : (F5_l14 N).X) (α : Type) (kn : AS → Option α) (ke : Out → Option α) : around (tabOf Tryd.prog) (F5_g N) F5_an (lam N [(14, F5_l14 N)]) 14 (bodyOf (nthLoop 14 (Tryd.f5.body.getD .skip))) ((F5_l14 N).st x) kn ke = (F5_l14 N).b x α (fun x' => kn ((F5_l14 N).st x')) (fun y => (F5_l14 N).sp y α ke) := by kernel_rfl
theorem F5_pat14 (N : Nat) (s : AS) (x : (F5_l14 N).X) (hc : s = canon (F5_an 14).1 s) (h : (F5_l14 N).p s = some x) : s = (F5_l14 N).st x := by
  dsimp only [F5_l14] at h
  split at h
  · cases h
    exact canon_mk hc ‹_› ‹_› rfl rfl rfl ⟨‹_›, ‹_›, ‹_›, ‹_›, trivial⟩ ⟨‹_›, ‹_›, trivial⟩
  · cases h
theorem F5_loop14 (N : Nat) : ∀ s o, s = canon (F5_an 14).1 s → (lam N [(14, F5_l14 N)]).v 14 s = some o → LoopSem Tryd.prog (nthLoop 14 (Tryd.f5.body.getD .skip)) s o :=
  loop_ok (tabOf_ok Tryd.prog) (gam_ok _) mixed F5_an N [(14, F5_l14 N)] 14 (bodyOf (nthLoop 14 (Tryd.f5.body.getD .skip))) (nthLoop 14 (Tryd.f5.body.getD .skip)) (by kernel_rfl) (by
    have e : actOf F5_an (bodyOf (nthLoop 14 (Tryd.f5.body.getD .skip))) (14 + 1) = [] := by kernel_rfl
    rw [e]
    intro p hp
    cases hp) (F5_l14 N) rfl (fun s x hc h => F5_pat14 N s x hc h) (fun x => rfl) (fun x α kn ke => (F5_body14 N x α kn ke).trans (congrArg ((F5_l14 N).b x α _) (funext fun y => (F5_l14 N).spe y α ke))) (F5_par14 N)
theorem F5_parF (N : Nat) : ParF (F5_s N).t := by
  intro x α β k k' r r' h h1
  revert h
  dsimp only [F5_s]
  (repeat' (first | (with_reducible refine par_ite ?_ ?_) | (with_reducible refine par_both ?_ ?_) | split)) <;> intro h <;> first | exact h1 _ h | (cases h; done)
theorem F5_text (N : Nat) (x : (F5_s N).X) : acall (tabOf Tryd.prog) (F5_g N) F5_an (lam N [(14, F5_l14 N)]) Tryd.f5 (F5_s N).S ((F5_s N).args x) ((F5_s N).bs x) = (F5_s N).t x Ret (fun y => some ((F5_s N).ret y)) := by kernel_rfl
theorem F5_pat (N : Nat) (a : List AV) (b : List (List AV)) (x : (F5_s N).X) (h : (F5_s N).pat a b = some x) : a = (F5_s N).args x ∧ b = (F5_s N).bs x := by
  dsimp only [F5_s] at h
  split at h
  · cases h; exact ⟨rfl, rfl⟩
  · cases h
noncomputable def F5_e (N : Nat) : Ent Tryd.prog := entOf (tabOf_ok Tryd.prog) (gam_ok _) mixed 5 Tryd.f5 Tryd.func5 rfl F5_an (lam N [(14, F5_l14 N)]) (by
    have e : actOf F5_an (Tryd.f5.body.getD .skip) 0 = [(14, nthLoop 14 (Tryd.f5.body.getD .skip))] := by kernel_rfl
    rw [e]
    intro p hp
    rcases List.mem_cons.1 hp with rfl | hp
    · exact F5_loop14 N
    cases hp) (F5_s N) (fun _ => ⟨rfl, rfl⟩) (F5_text N) (F5_pat N) (F5_parF N)
/-! ### seismonet/seismonetlaw07.PacketBack (function 3) -/
def F3_an : Nat → Keep × Keep := anL []
noncomputable def F3_g (N : Nat) : GamK := gam (P := Tryd.prog) [F6_e N, F7_e N, F8_e N, F9_e N, F10_e N, F11_e N, F12_e N, F13_e N]
noncomputable def F3_s (N : Nat) : FSpec where
  X := (List (List AV))
  Y := Bool
  ash := [[some 1]]
  bsh := []
  S := ⟨[[none]], [], [], [], []⟩
  bm := false
  pat := fun a b => match a, b with
    | [(AV.list 1 a0 none)], [] => some a0
    | _, _ => none
  args := fun x => [(AV.list 1 x none)]
  bs := fun x => []
  ret := fun y => ⟨(AV.v (.bool y)), [], none, [], [], []⟩
  t := fun x α k => (match F6_d N x with | some y1 => (match (!y1) with | true => (match F7_d N () with | some y2 => (k y2) | none => none) | false => (match F8_d N x with | some y3 => (match F9_d N (y3.1, y3.2) with | some y4 => (match F10_d N (y4.1, y4.2.1, y4.2.2.1, y4.2.2.2.1, y4.2.2.2.2.1, y4.2.2.2.2.2.1, y4.2.2.2.2.2.2.1, y4.2.2.2.2.2.2.2.1, y4.2.2.2.2.2.2.2.2.1, y4.2.2.2.2.2.2.2.2.2.1, y4.2.2.2.2.2.2.2.2.2.2.1, y4.2.2.2.2.2.2.2.2.2.2.2.1) with | some y5 => (match F11_d N y5.1 with | some y6 => (match F10_d N (y6.1, y6.2.1, y6.2.2.1, y6.2.2.2.1, y6.2.2.2.2.1, y6.2.2.2.2.2.1, y6.2.2.2.2.2.2.1, y6.2.2.2.2.2.2.2.1, y6.2.2.2.2.2.2.2.2.1, y6.2.2.2.2.2.2.2.2.2.1, y6.2.2.2.2.2.2.2.2.2.2.1, y6.2.2.2.2.2.2.2.2.2.2.2.1) with | some y7 => (match F12_d N y5.1 with | some y8 => (match (y5.2 == 0) with | true => (match (y6.2.2.2.2.2.2.2.2.2.2.2.2 == 0) with | true => (match (y7.2 == 0) with | true => (match (y8.2 == 0) with | true => (match F13_d N (y4.1, y4.2.1, y4.2.2.1, y4.2.2.2.1, y4.2.2.2.2.1, y4.2.2.2.2.2.1, y4.2.2.2.2.2.2.1, y4.2.2.2.2.2.2.2.1, y4.2.2.2.2.2.2.2.2.1, y4.2.2.2.2.2.2.2.2.2.1, y4.2.2.2.2.2.2.2.2.2.2.1, y4.2.2.2.2.2.2.2.2.2.2.2.1, y6.1, y6.2.1, y6.2.2.1, y6.2.2.2.1, y6.2.2.2.2.1, y6.2.2.2.2.2.1, y6.2.2.2.2.2.2.1, y6.2.2.2.2.2.2.2.1, y6.2.2.2.2.2.2.2.2.1, y6.2.2.2.2.2.2.2.2.2.1, y6.2.2.2.2.2.2.2.2.2.2.1, y6.2.2.2.2.2.2.2.2.2.2.2.1) with | some y9 => (match y9 with | true => (match (y7.1.toList == y5.1.toList) with | true => (match (y8.1 == (y5.1.size : Int)) with | true => (match F7_d N () with | some y10 => (k y10) | none => none) | false => (k false)) | false => (k false)) | false => (k false)) | none => none) | false => (k false)) | false => (k false)) | false => (k false)) | false => (k false)) | none => none) | none => none) | none => none) | none => none) | none => none) | none => none)) | none => none)
noncomputable abbrev F3_d (N : Nat) (x : (List (List AV))) : Option (Bool) := (F3_s N).d x
theorem F3_parF (N : Nat) : ParF (F3_s N).t := by
  intro x α β k k' r r' h h1
  revert h
  dsimp only [F3_s]
  (repeat' (first | (with_reducible refine par_ite ?_ ?_) | (with_reducible refine par_both ?_ ?_) | split)) <;> intro h <;> first | exact h1 _ h | (cases h; done)
theorem F3_text (N : Nat) (x : (F3_s N).X) : acall (tabOf Tryd.prog) (F3_g N) F3_an (lam N []) Tryd.f3 (F3_s N).S ((F3_s N).args x) ((F3_s N).bs x) = (F3_s N).t x Ret (fun y => some ((F3_s N).ret y)) := by kernel_rfl
theorem F3_pat (N : Nat) (a : List AV) (b : List (List AV)) (x : (F3_s N).X) (h : (F3_s N).pat a b = some x) : a = (F3_s N).args x ∧ b = (F3_s N).bs x := by
  dsimp only [F3_s] at h
  split at h
  · cases h; exact ⟨rfl, rfl⟩
  · cases h
noncomputable def F3_e (N : Nat) : Ent Tryd.prog := entOf (tabOf_ok Tryd.prog) (gam_ok _) mixed 3 Tryd.f3 Tryd.func3 rfl F3_an (lam N []) (by
    have e : actOf F3_an (Tryd.f3.body.getD .skip) 0 = [] := by kernel_rfl
    rw [e]
    intro p hp
    cases hp) (F3_s N) (fun _ => ⟨rfl, rfl⟩) (F3_text N) (F3_pat N) (F3_parF N)
end Go.Proofs.YtdmedeaknnldcaaDoor
