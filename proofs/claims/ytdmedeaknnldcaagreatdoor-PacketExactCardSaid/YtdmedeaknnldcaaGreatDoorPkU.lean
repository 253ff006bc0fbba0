/- Functions without memory. (written by sx.py) -/
import Derived.Test.YtdmedeaknnldcaaGreatDoorPkRef
namespace Go.Proofs.YtdmedeaknnldcaaGreatDoor
open Go.RowKit
set_option linter.unusedVariables false
set_option linter.unusedSimpArgs false
set_option linter.unnecessarySimpa false
set_option maxRecDepth 4000
/-! ### seismonet/rate.in (function 67) -/
def F67_an : Nat → Keep × Keep := anL []
noncomputable def F67_g (N : Nat) : GamK := gam (P := Tryz.prog) []
noncomputable def F67_s (N : Nat) : FSpec where
  X := Int × Int × Int
  Y := Bool
  ash := [[none], [none], [none]]
  bsh := []
  S := ⟨[[none]], [], [], [], []⟩
  bm := false
  pat := fun a b => match a, b with
    | [(AV.v (.int .i64 a0)), (AV.v (.int .i64 a1)), (AV.v (.int .i64 a2))], [] => some (a0, a1, a2)
    | _, _ => none
  args := fun x => [(AV.v (.int .i64 x.1)), (AV.v (.int .i64 x.2.1)), (AV.v (.int .i64 x.2.2))]
  bs := fun x => []
  ret := fun y => ⟨(AV.v (.bool y)), [], none, [], [], []⟩
  t := fun x α k => (match (decide (x.1 ≥ x.2.1)) with | true => (k (decide (x.1 ≤ x.2.2))) | false => (k false))
noncomputable abbrev F67_d (N : Nat) (x : Int × Int × Int) : Option (Bool) := (F67_s N).d x
theorem F67_parF (N : Nat) : ParF (F67_s N).t := by
  intro x α β k k' r r' h h1
  revert h
  dsimp only [F67_s]
  (repeat' (first | (with_reducible refine par_ite ?_ ?_) | (with_reducible refine par_both ?_ ?_) | split)) <;> intro h <;> first | exact h1 _ h | (cases h; done)
theorem F67_text (N : Nat) (x : (F67_s N).X) : acall (tabOf Tryz.prog) (F67_g N) F67_an (lam N []) Tryz.f67 (F67_s N).S ((F67_s N).args x) ((F67_s N).bs x) = (F67_s N).t x Ret (fun y => some ((F67_s N).ret y)) := by kernel_rfl
theorem F67_pat (N : Nat) (a : List AV) (b : List (List AV)) (x : (F67_s N).X) (h : (F67_s N).pat a b = some x) : a = (F67_s N).args x ∧ b = (F67_s N).bs x := by
  dsimp only [F67_s] at h
  split at h
  · cases h; exact ⟨rfl, rfl⟩
  · cases h
noncomputable def F67_e (N : Nat) : Ent Tryz.prog := entOf (tabOf_ok Tryz.prog) (gam_ok _) mixed 67 Tryz.f67 Tryz.func67 rfl F67_an (lam N []) (by
    have e : actOf F67_an (Tryz.f67.body.getD .skip) 0 = [] := by kernel_rfl
    rw [e]
    intro p hp
    cases hp) (F67_s N) (fun _ => ⟨rfl, rfl⟩) (F67_text N) (F67_pat N) (F67_parF N)
/-! ### seismonet/rate.gcd (function 68) -/
def F68_an : Nat → Keep × Keep := anL [(3, ⟨[0, 1], [], [], [], [], [], [], [], false⟩, ⟨[0], [], [], [], [], [], [], [], false⟩)]
noncomputable def F68_g (N : Nat) : GamK := gam (P := Tryz.prog) []
noncomputable def F68_l3 (N : Nat) : LSpec where
  X := Int × Int
  Y := (Int)
  p := fun s => match s.env.length, s.nin, s.at 0, s.at 1 with
    | 12, 0, (AV.v (.int .i64 a0)), (AV.v (.int .i64 a1)) => some (a0, a1)
    | _, _, _, _ => none
  st := fun x => mkS 12 [(0, (AV.v (.int .i64 x.1))), (1, (AV.v (.int .i64 x.2)))] [] (F68_an 3).1.toks 0
  out := fun y => (.exit 0, mkS 12 [(0, (AV.v (.int .i64 y)))] [] (F68_an 3).2.toks 0)
  sp := fun y α k => k (.exit 0, mkS 12 [(0, (AV.v (.int .i64 y)))] [] (F68_an 3).2.toks 0)
  spe := fun y α k => rfl
  b := fun x α kn ke => (match (x.2 != 0) with | true => (if x.2 = 0 then none else (kn (x.2, (x.1.tmod x.2)))) | false => (ke x.1))
noncomputable abbrev F68_d3 (N : Nat) (x : Int × Int) : Option ((Int)) := (F68_l3 N).L N x
noncomputable def F68_s (N : Nat) : FSpec where
  X := Int × Int
  Y := Int
  ash := [[none], [none]]
  bsh := []
  S := ⟨[[none]], [], [], [], []⟩
  bm := false
  pat := fun a b => match a, b with
    | [(AV.v (.int .i64 a0)), (AV.v (.int .i64 a1))], [] => some (a0, a1)
    | _, _ => none
  args := fun x => [(AV.v (.int .i64 x.1)), (AV.v (.int .i64 x.2))]
  bs := fun x => []
  ret := fun y => ⟨(AV.v (.int .i64 y)), [], none, [], [], []⟩
  t := fun x α k => (match F68_d3 N (x.1, x.2) with | some y1 => (k y1) | none => none)
noncomputable abbrev F68_d (N : Nat) (x : Int × Int) : Option (Int) := (F68_s N).d x
theorem F68_par3 (N : Nat) : Par (F68_l3 N).b := by
  intro x α β kn ke kn' ke' r r' h h1 h2
  revert h
  dsimp only [F68_l3]
  (repeat' (first | (with_reducible refine par_ite ?_ ?_) | (with_reducible refine par_both ?_ ?_) | split)) <;> intro h <;> first | exact h1 _ h | exact h2 _ h | (cases h; done)
theorem F68_body3 (N : Nat) (x : (F68_l3 N).X) (α : Type) (kn : AS → Option α) (ke : Out → Option α) : around (tabOf Tryz.prog) (F68_g N) F68_an (lam N [(3, F68_l3 N)]) 3 (bodyOf (nthLoop 3 (Tryz.f68.body.getD .skip))) ((F68_l3 N).st x) kn ke = (F68_l3 N).b x α (fun x' => kn ((F68_l3 N).st x')) (fun y => (F68_l3 N).sp y α ke) := by kernel_rfl
theorem F68_pat3 (N : Nat) (s : AS) (x : (F68_l3 N).X) (hc : s = canon (F68_an 3).1 s) (h : (F68_l3 N).p s = some x) : s = (F68_l3 N).st x := by
  dsimp only [F68_l3] at h
  split at h
  · cases h
    exact canon_mk hc ‹_› ‹_› rfl rfl rfl ⟨‹_›, ‹_›, trivial⟩ trivial
  · cases h
theorem F68_loop3 (N : Nat) : ∀ s o, s = canon (F68_an 3).1 s → (lam N [(3, F68_l3 N)]).v 3 s = some o → LoopSem Tryz.prog (nthLoop 3 (Tryz.f68.body.getD .skip)) s o :=
  loop_ok (tabOf_ok Tryz.prog) (gam_ok _) mixed F68_an N [(3, F68_l3 N)] 3 (bodyOf (nthLoop 3 (Tryz.f68.body.getD .skip))) (nthLoop 3 (Tryz.f68.body.getD .skip)) (by kernel_rfl) (by
    have e : actOf F68_an (bodyOf (nthLoop 3 (Tryz.f68.body.getD .skip))) (3 + 1) = [] := by kernel_rfl
    rw [e]
    intro p hp
    cases hp) (F68_l3 N) rfl (fun s x hc h => F68_pat3 N s x hc h) (fun x => rfl) (fun x α kn ke => (F68_body3 N x α kn ke).trans (congrArg ((F68_l3 N).b x α _) (funext fun y => (F68_l3 N).spe y α ke))) (F68_par3 N)
theorem F68_parF (N : Nat) : ParF (F68_s N).t := by
  intro x α β k k' r r' h h1
  revert h
  dsimp only [F68_s]
  (repeat' (first | (with_reducible refine par_ite ?_ ?_) | (with_reducible refine par_both ?_ ?_) | split)) <;> intro h <;> first | exact h1 _ h | (cases h; done)
theorem F68_text (N : Nat) (x : (F68_s N).X) : acall (tabOf Tryz.prog) (F68_g N) F68_an (lam N [(3, F68_l3 N)]) Tryz.f68 (F68_s N).S ((F68_s N).args x) ((F68_s N).bs x) = (F68_s N).t x Ret (fun y => some ((F68_s N).ret y)) := by kernel_rfl
theorem F68_pat (N : Nat) (a : List AV) (b : List (List AV)) (x : (F68_s N).X) (h : (F68_s N).pat a b = some x) : a = (F68_s N).args x ∧ b = (F68_s N).bs x := by
  dsimp only [F68_s] at h
  split at h
  · cases h; exact ⟨rfl, rfl⟩
  · cases h
noncomputable def F68_e (N : Nat) : Ent Tryz.prog := entOf (tabOf_ok Tryz.prog) (gam_ok _) mixed 68 Tryz.f68 Tryz.func68 rfl F68_an (lam N [(3, F68_l3 N)]) (by
    have e : actOf F68_an (Tryz.f68.body.getD .skip) 0 = [(3, nthLoop 3 (Tryz.f68.body.getD .skip))] := by kernel_rfl
    rw [e]
    intro p hp
    rcases List.mem_cons.1 hp with rfl | hp
    · exact F68_loop3 N
    cases hp) (F68_s N) (fun _ => ⟨rfl, rfl⟩) (F68_text N) (F68_pat N) (F68_parF N)
/-! ### seismonet/rate.Valid (function 38) -/
def F38_an : Nat → Keep × Keep := anL []
noncomputable def F38_g (N : Nat) : GamK := gam (P := Tryz.prog) [F67_e N, F68_e N]
noncomputable def F38_s (N : Nat) : FSpec where
  X := Int × Int
  Y := Bool
  ash := [[none, none]]
  bsh := []
  S := ⟨[[none]], [], [], [], []⟩
  bm := false
  pat := fun a b => match a, b with
    | [(AV.agg [(AV.v (.int .i64 a0)), (AV.v (.int .i64 a1))])], [] => some (a0, a1)
    | _, _ => none
  args := fun x => [(AV.agg [(AV.v (.int .i64 x.1)), (AV.v (.int .i64 x.2))])]
  bs := fun x => []
  ret := fun y => ⟨(AV.v (.bool y)), [], none, [], [], []⟩
  t := fun x α k => (match F67_d N (x.1, 1, 4096) with | some y1 => (match y1 with | true => (match F67_d N (x.2, 1, 4096) with | some y2 => (match y2 with | true => (match F68_d N (x.1, x.2) with | some y3 => (k (y3 == 1)) | none => none) | false => (k false)) | none => none) | false => (k false)) | none => none)
noncomputable abbrev F38_d (N : Nat) (x : Int × Int) : Option (Bool) := (F38_s N).d x
theorem F38_parF (N : Nat) : ParF (F38_s N).t := by
  intro x α β k k' r r' h h1
  revert h
  dsimp only [F38_s]
  (repeat' (first | (with_reducible refine par_ite ?_ ?_) | (with_reducible refine par_both ?_ ?_) | split)) <;> intro h <;> first | exact h1 _ h | (cases h; done)
theorem F38_text (N : Nat) (x : (F38_s N).X) : acall (tabOf Tryz.prog) (F38_g N) F38_an (lam N []) Tryz.f38 (F38_s N).S ((F38_s N).args x) ((F38_s N).bs x) = (F38_s N).t x Ret (fun y => some ((F38_s N).ret y)) := by kernel_rfl
theorem F38_pat (N : Nat) (a : List AV) (b : List (List AV)) (x : (F38_s N).X) (h : (F38_s N).pat a b = some x) : a = (F38_s N).args x ∧ b = (F38_s N).bs x := by
  dsimp only [F38_s] at h
  split at h
  · cases h; exact ⟨rfl, rfl⟩
  · cases h
noncomputable def F38_e (N : Nat) : Ent Tryz.prog := entOf (tabOf_ok Tryz.prog) (gam_ok _) mixed 38 Tryz.f38 Tryz.func38 rfl F38_an (lam N []) (by
    have e : actOf F38_an (Tryz.f38.body.getD .skip) 0 = [] := by kernel_rfl
    rw [e]
    intro p hp
    cases hp) (F38_s N) (fun _ => ⟨rfl, rfl⟩) (F38_text N) (F38_pat N) (F38_parF N)
/-! ### seismonet/packet.in (function 39) -/
def F39_an : Nat → Keep × Keep := anL []
noncomputable def F39_g (N : Nat) : GamK := gam (P := Tryz.prog) []
noncomputable def F39_s (N : Nat) : FSpec where
  X := Int × Int × Int
  Y := Bool
  ash := [[none], [none], [none]]
  bsh := []
  S := ⟨[[none]], [], [], [], []⟩
  bm := false
  pat := fun a b => match a, b with
    | [(AV.v (.int .i64 a0)), (AV.v (.int .i64 a1)), (AV.v (.int .i64 a2))], [] => some (a0, a1, a2)
    | _, _ => none
  args := fun x => [(AV.v (.int .i64 x.1)), (AV.v (.int .i64 x.2.1)), (AV.v (.int .i64 x.2.2))]
  bs := fun x => []
  ret := fun y => ⟨(AV.v (.bool y)), [], none, [], [], []⟩
  t := fun x α k => (match (decide (x.1 ≥ x.2.1)) with | true => (k (decide (x.1 ≤ x.2.2))) | false => (k false))
noncomputable abbrev F39_d (N : Nat) (x : Int × Int × Int) : Option (Bool) := (F39_s N).d x
theorem F39_parF (N : Nat) : ParF (F39_s N).t := by
  intro x α β k k' r r' h h1
  revert h
  dsimp only [F39_s]
  (repeat' (first | (with_reducible refine par_ite ?_ ?_) | (with_reducible refine par_both ?_ ?_) | split)) <;> intro h <;> first | exact h1 _ h | (cases h; done)
theorem F39_text (N : Nat) (x : (F39_s N).X) : acall (tabOf Tryz.prog) (F39_g N) F39_an (lam N []) Tryz.f39 (F39_s N).S ((F39_s N).args x) ((F39_s N).bs x) = (F39_s N).t x Ret (fun y => some ((F39_s N).ret y)) := by kernel_rfl
theorem F39_pat (N : Nat) (a : List AV) (b : List (List AV)) (x : (F39_s N).X) (h : (F39_s N).pat a b = some x) : a = (F39_s N).args x ∧ b = (F39_s N).bs x := by
  dsimp only [F39_s] at h
  split at h
  · cases h; exact ⟨rfl, rfl⟩
  · cases h
noncomputable def F39_e (N : Nat) : Ent Tryz.prog := entOf (tabOf_ok Tryz.prog) (gam_ok _) mixed 39 Tryz.f39 Tryz.func39 rfl F39_an (lam N []) (by
    have e : actOf F39_an (Tryz.f39.body.getD .skip) 0 = [] := by kernel_rfl
    rw [e]
    intro p hp
    cases hp) (F39_s N) (fun _ => ⟨rfl, rfl⟩) (F39_text N) (F39_pat N) (F39_parF N)
/-! ### seismonet/packet.Valid (function 16) -/
def F16_an : Nat → Keep × Keep := anL []
noncomputable def F16_g (N : Nat) : GamK := gam (P := Tryz.prog) [F37_e N, F38_e N, F39_e N, F34_e N]
noncomputable def F16_s (N : Nat) : FSpec where
  X := ByteArray × ByteArray × ByteArray × ByteArray × Int × Int × Int × Int × Int × Int × Int × (List (List AV))
  Y := Bool
  ash := [[none, none, none, none, none, none, none, none, none, none, none, some 1]]
  bsh := []
  S := ⟨[[none]], [], [], [], []⟩
  bm := false
  pat := fun a b => match a, b with
    | [(AV.agg [(AV.v (.string a0)), (AV.v (.string a1)), (AV.v (.string a2)), (AV.v (.string a3)), (AV.v (.int .i64 a4)), (AV.v (.int .i64 a5)), (AV.v (.int .i64 a6)), (AV.v (.int .i64 a7)), (AV.v (.int .i64 a8)), (AV.v (.int .i64 a9)), (AV.v (.int .i64 a10)), (AV.list 1 a11 none)])], [] => some (a0, a1, a2, a3, a4, a5, a6, a7, a8, a9, a10, a11)
    | _, _ => none
  args := fun x => [(AV.agg [(AV.v (.string x.1)), (AV.v (.string x.2.1)), (AV.v (.string x.2.2.1)), (AV.v (.string x.2.2.2.1)), (AV.v (.int .i64 x.2.2.2.2.1)), (AV.v (.int .i64 x.2.2.2.2.2.1)), (AV.v (.int .i64 x.2.2.2.2.2.2.1)), (AV.v (.int .i64 x.2.2.2.2.2.2.2.1)), (AV.v (.int .i64 x.2.2.2.2.2.2.2.2.1)), (AV.v (.int .i64 x.2.2.2.2.2.2.2.2.2.1)), (AV.v (.int .i64 x.2.2.2.2.2.2.2.2.2.2.1)), (AV.list 1 x.2.2.2.2.2.2.2.2.2.2.2 none)])]
  bs := fun x => []
  ret := fun y => ⟨(AV.v (.bool y)), [], none, [], [], []⟩
  t := fun x α k => (match F37_d N (x.1, x.2.1, x.2.2.1, x.2.2.2.1) with | some y1 => (match (!y1) with | true => (k false) | false => (match F38_d N (x.2.2.2.2.2.2.2.1, x.2.2.2.2.2.2.2.2.1) with | some y2 => (match (!y2) with | true => (k false) | false => (match F39_d N (x.2.2.2.2.1, 0, 65535) with | some y3 => (match (!y3) with | true => (k false) | false => (match F39_d N (x.2.2.2.2.2.1, 0, 1073741824) with | some y4 => (match (!y4) with | true => (k false) | false => (match F39_d N (x.2.2.2.2.2.2.1, 0, 9007199254740992) with | some y5 => (match (!y5) with | true => (k false) | false => (match F39_d N (x.2.2.2.2.2.2.2.2.2.1, 0, 2) with | some y6 => (match (!y6) with | true => (k false) | false => (match F39_d N (x.2.2.2.2.2.2.2.2.2.2.1, 0, 1099511627776) with | some y7 => (match (!y7) with | true => (k false) | false => (match (decide ((x.2.2.2.2.2.2.2.2.2.2.2.length : Int) > 420)) with | true => (k false) | false => (match F34_d N x.2.2.2.2.2.2.2.2.2.2.2 with | some y8 => (k (y8.2 == 0)) | none => none))) | none => none)) | none => none)) | none => none)) | none => none)) | none => none)) | none => none)) | none => none)
noncomputable abbrev F16_d (N : Nat) (x : ByteArray × ByteArray × ByteArray × ByteArray × Int × Int × Int × Int × Int × Int × Int × (List (List AV))) : Option (Bool) := (F16_s N).d x
theorem F16_parF (N : Nat) : ParF (F16_s N).t := by
  intro x α β k k' r r' h h1
  revert h
  dsimp only [F16_s]
  (repeat' (first | (with_reducible refine par_ite ?_ ?_) | (with_reducible refine par_both ?_ ?_) | split)) <;> intro h <;> first | exact h1 _ h | (cases h; done)
theorem F16_text (N : Nat) (x : (F16_s N).X) : acall (tabOf Tryz.prog) (F16_g N) F16_an (lam N []) Tryz.f16 (F16_s N).S ((F16_s N).args x) ((F16_s N).bs x) = (F16_s N).t x Ret (fun y => some ((F16_s N).ret y)) := by kernel_rfl
theorem F16_pat (N : Nat) (a : List AV) (b : List (List AV)) (x : (F16_s N).X) (h : (F16_s N).pat a b = some x) : a = (F16_s N).args x ∧ b = (F16_s N).bs x := by
  dsimp only [F16_s] at h
  split at h
  · cases h; exact ⟨rfl, rfl⟩
  · cases h
noncomputable def F16_e (N : Nat) : Ent Tryz.prog := entOf (tabOf_ok Tryz.prog) (gam_ok _) mixed 16 Tryz.f16 Tryz.func16 rfl F16_an (lam N []) (by
    have e : actOf F16_an (Tryz.f16.body.getD .skip) 0 = [] := by kernel_rfl
    rw [e]
    intro p hp
    cases hp) (F16_s N) (fun _ => ⟨rfl, rfl⟩) (F16_text N) (F16_pat N) (F16_parF N)
/-! ### seismonet/packet.Encode (function 13) -/
def F13_an : Nat → Keep × Keep := anL [(11, ⟨[4, 6, 8, 63, 64], [], [], [(62, 2)], [], [], [], [], false⟩, ⟨[4, 6, 8], [], [], [], [], [], [], [], false⟩)]
noncomputable def F13_g (N : Nat) : GamK := gam (P := Tryz.prog) [F16_e N, F33_e N, F34_e N, F35_e N, F36_e N]
noncomputable def F13_l11 (N : Nat) : LSpec where
  X := (List (List AV)) × ByteArray × ByteArray × ByteArray × Int × Int
  Y := (ByteArray × ByteArray × ByteArray)
  p := fun s => match s.env.length, s.nin, s.at 62, s.at 4, s.at 6, s.at 8, s.at 63, s.at 64 with
    | 84, 0, (AV.list 2 a0 none), (AV.v (.string a1)), (AV.v (.string a2)), (AV.v (.string a3)), (AV.v (.int .i64 a4)), (AV.v (.int .i64 a5)) => some (a0, a1, a2, a3, a4, a5)
    | _, _, _, _, _, _, _, _ => none
  st := fun x => mkS 84 [(62, (AV.list 2 x.1 none)), (4, (AV.v (.string x.2.1))), (6, (AV.v (.string x.2.2.1))), (8, (AV.v (.string x.2.2.2.1))), (63, (AV.v (.int .i64 x.2.2.2.2.1))), (64, (AV.v (.int .i64 x.2.2.2.2.2)))] [] (F13_an 11).1.toks 0
  out := fun y => (.exit 0, mkS 84 [(4, (AV.v (.string y.1))), (6, (AV.v (.string y.2.1))), (8, (AV.v (.string y.2.2)))] [] (F13_an 11).2.toks 0)
  sp := fun y α k => k (.exit 0, mkS 84 [(4, (AV.v (.string y.1))), (6, (AV.v (.string y.2.1))), (8, (AV.v (.string y.2.2)))] [] (F13_an 11).2.toks 0)
  spe := fun y α k => rfl
  b := fun x α kn ke => (match (decide (x.2.2.2.2.2 < x.2.2.2.2.1)) with | true => (if 0 ≤ x.2.2.2.2.2 then (match x.1[x.2.2.2.2.2.toNat]? with | some c4 => (match c4[0]? with | some x5 => (match x5 with | .v (.int q7 n6) => (if q7 = .i64 then (match c4[1]? with | some x8 => (match x8 with | .v (.int q10 n9) => (if q10 = .i64 then (match F35_d N (x.2.2.2.1, n6, n9) with | some y11 => (kn (x.1, x.2.1, x.2.2.1, y11.1, x.2.2.2.2.1, (i64 (x.2.2.2.2.2 + 1)))) | none => none) else none) | _ => none) | none => none) else none) | _ => none) | none => none) | none => none) else none) | false => (ke (x.2.1, x.2.2.1, x.2.2.2.1)))
noncomputable abbrev F13_d11 (N : Nat) (x : (List (List AV)) × ByteArray × ByteArray × ByteArray × Int × Int) : Option ((ByteArray × ByteArray × ByteArray)) := (F13_l11 N).L N x
noncomputable def F13_s (N : Nat) : FSpec where
  X := ByteArray × ByteArray × ByteArray × ByteArray × Int × Int × Int × Int × Int × Int × Int × (List (List AV))
  Y := ByteArray × Int
  ash := [[none, none, none, none, none, none, none, none, none, none, none, some 1]]
  bsh := []
  S := ⟨[[none], [none]], [], [], [], []⟩
  bm := false
  pat := fun a b => match a, b with
    | [(AV.agg [(AV.v (.string a0)), (AV.v (.string a1)), (AV.v (.string a2)), (AV.v (.string a3)), (AV.v (.int .i64 a4)), (AV.v (.int .i64 a5)), (AV.v (.int .i64 a6)), (AV.v (.int .i64 a7)), (AV.v (.int .i64 a8)), (AV.v (.int .i64 a9)), (AV.v (.int .i64 a10)), (AV.list 1 a11 none)])], [] => some (a0, a1, a2, a3, a4, a5, a6, a7, a8, a9, a10, a11)
    | _, _ => none
  args := fun x => [(AV.agg [(AV.v (.string x.1)), (AV.v (.string x.2.1)), (AV.v (.string x.2.2.1)), (AV.v (.string x.2.2.2.1)), (AV.v (.int .i64 x.2.2.2.2.1)), (AV.v (.int .i64 x.2.2.2.2.2.1)), (AV.v (.int .i64 x.2.2.2.2.2.2.1)), (AV.v (.int .i64 x.2.2.2.2.2.2.2.1)), (AV.v (.int .i64 x.2.2.2.2.2.2.2.2.1)), (AV.v (.int .i64 x.2.2.2.2.2.2.2.2.2.1)), (AV.v (.int .i64 x.2.2.2.2.2.2.2.2.2.2.1)), (AV.list 1 x.2.2.2.2.2.2.2.2.2.2.2 none)])]
  bs := fun x => []
  ret := fun y => ⟨(AV.tup [(AV.v (.string y.1)), (AV.v (.int .i64 y.2))]), [], none, [], [], []⟩
  t := fun x α k => (match F16_d N (x.1, x.2.1, x.2.2.1, x.2.2.2.1, x.2.2.2.2.1, x.2.2.2.2.2.1, x.2.2.2.2.2.2.1, x.2.2.2.2.2.2.2.1, x.2.2.2.2.2.2.2.2.1, x.2.2.2.2.2.2.2.2.2.1, x.2.2.2.2.2.2.2.2.2.2.1, x.2.2.2.2.2.2.2.2.2.2.2) with | some y1 => (match (!y1) with | true => (k ((⟨#[]⟩ : ByteArray), 1)) | false => (match F33_d N (x.1, x.2.1, x.2.2.1, x.2.2.2.1) with | some y2 => (match F34_d N x.2.2.2.2.2.2.2.2.2.2.2 with | some y3 => (match F13_d11 N ([[(AV.v (.int .i64 x.2.2.2.2.2.2.2.2.2.1)), (AV.v (.int .i64 1))], [(AV.v (.int .i64 x.2.2.2.2.1)), (AV.v (.int .i64 2))], [(AV.v (.int .i64 x.2.2.2.2.2.1)), (AV.v (.int .i64 4))], [(AV.v (.int .i64 x.2.2.2.2.2.2.1)), (AV.v (.int .i64 7))], [(AV.v (.int .i64 x.2.2.2.2.2.2.2.1)), (AV.v (.int .i64 2))], [(AV.v (.int .i64 x.2.2.2.2.2.2.2.2.1)), (AV.v (.int .i64 2))], [(AV.v (.int .i64 x.2.2.2.2.2.2.2.2.2.2.1)), (AV.v (.int .i64 6))], [(AV.v (.int .i64 (x.2.2.2.2.2.2.2.2.2.2.2.length : Int))), (AV.v (.int .i64 2))], [(AV.v (.int .i64 (y2.1.size : Int))), (AV.v (.int .i64 1))], [(AV.v (.int .i64 (i64 ((y3.1.size : Int).tdiv 64)))), (AV.v (.int .i64 1))]], y2.1, y3.1, (⟨#[83, 78, 1]⟩ : ByteArray), ([[(AV.v (.int .i64 x.2.2.2.2.2.2.2.2.2.1)), (AV.v (.int .i64 1))], [(AV.v (.int .i64 x.2.2.2.2.1)), (AV.v (.int .i64 2))], [(AV.v (.int .i64 x.2.2.2.2.2.1)), (AV.v (.int .i64 4))], [(AV.v (.int .i64 x.2.2.2.2.2.2.1)), (AV.v (.int .i64 7))], [(AV.v (.int .i64 x.2.2.2.2.2.2.2.1)), (AV.v (.int .i64 2))], [(AV.v (.int .i64 x.2.2.2.2.2.2.2.2.1)), (AV.v (.int .i64 2))], [(AV.v (.int .i64 x.2.2.2.2.2.2.2.2.2.2.1)), (AV.v (.int .i64 6))], [(AV.v (.int .i64 (x.2.2.2.2.2.2.2.2.2.2.2.length : Int))), (AV.v (.int .i64 2))], [(AV.v (.int .i64 (y2.1.size : Int))), (AV.v (.int .i64 1))], [(AV.v (.int .i64 (i64 ((y3.1.size : Int).tdiv 64)))), (AV.v (.int .i64 1))]].length : Int), 0) with | some y12 => (if y12.2.2.size + y12.1.size ≤ 9223372036854775807 then (if (y12.2.2 ++ y12.1).size + y12.2.1.size ≤ 9223372036854775807 then (match F36_d N ((y12.2.2 ++ y12.1) ++ y12.2.1) with | some y13 => (k (y13, 0)) | none => none) else none) else none) | none => none) | none => none) | none => none)) | none => none)
noncomputable abbrev F13_d (N : Nat) (x : ByteArray × ByteArray × ByteArray × ByteArray × Int × Int × Int × Int × Int × Int × Int × (List (List AV))) : Option (ByteArray × Int) := (F13_s N).d x
theorem F13_par11 (N : Nat) : Par (F13_l11 N).b := by
  intro x α β kn ke kn' ke' r r' h h1 h2
  revert h
  dsimp only [F13_l11]
  (repeat' (first | (with_reducible refine par_ite ?_ ?_) | (with_reducible refine par_both ?_ ?_) | split)) <;> intro h <;> first | exact h1 _ h | exact h2 _ h | (cases h; done)
theorem F13_body11 (N : Nat) (x : (F13_l11 N).X) (α : Type) (kn : AS → Option α) (ke : Out → Option α) : around (tabOf Tryz.prog) (F13_g N) F13_an (lam N [(11, F13_l11 N)]) 11 (bodyOf (nthLoop 11 (Tryz.f13.body.getD .skip))) ((F13_l11 N).st x) kn ke = (F13_l11 N).b x α (fun x' => kn ((F13_l11 N).st x')) (fun y => (F13_l11 N).sp y α ke) := by kernel_rfl
theorem F13_pat11 (N : Nat) (s : AS) (x : (F13_l11 N).X) (hc : s = canon (F13_an 11).1 s) (h : (F13_l11 N).p s = some x) : s = (F13_l11 N).st x := by
  dsimp only [F13_l11] at h
  split at h
  · cases h
    exact canon_mk hc ‹_› ‹_› rfl rfl rfl ⟨‹_›, ‹_›, ‹_›, ‹_›, ‹_›, ‹_›, trivial⟩ trivial
  · cases h
theorem F13_loop11 (N : Nat) : ∀ s o, s = canon (F13_an 11).1 s → (lam N [(11, F13_l11 N)]).v 11 s = some o → LoopSem Tryz.prog (nthLoop 11 (Tryz.f13.body.getD .skip)) s o :=
  loop_ok (tabOf_ok Tryz.prog) (gam_ok _) mixed F13_an N [(11, F13_l11 N)] 11 (bodyOf (nthLoop 11 (Tryz.f13.body.getD .skip))) (nthLoop 11 (Tryz.f13.body.getD .skip)) (by kernel_rfl) (by
    have e : actOf F13_an (bodyOf (nthLoop 11 (Tryz.f13.body.getD .skip))) (11 + 1) = [] := by kernel_rfl
    rw [e]
    intro p hp
    cases hp) (F13_l11 N) rfl (fun s x hc h => F13_pat11 N s x hc h) (fun x => rfl) (fun x α kn ke => (F13_body11 N x α kn ke).trans (congrArg ((F13_l11 N).b x α _) (funext fun y => (F13_l11 N).spe y α ke))) (F13_par11 N)
theorem F13_parF (N : Nat) : ParF (F13_s N).t := by
  intro x α β k k' r r' h h1
  revert h
  dsimp only [F13_s]
  (repeat' (first | (with_reducible refine par_ite ?_ ?_) | (with_reducible refine par_both ?_ ?_) | split)) <;> intro h <;> first | exact h1 _ h | (cases h; done)
theorem F13_text (N : Nat) (x : (F13_s N).X) : acall (tabOf Tryz.prog) (F13_g N) F13_an (lam N [(11, F13_l11 N)]) Tryz.f13 (F13_s N).S ((F13_s N).args x) ((F13_s N).bs x) = (F13_s N).t x Ret (fun y => some ((F13_s N).ret y)) := by kernel_rfl
theorem F13_pat (N : Nat) (a : List AV) (b : List (List AV)) (x : (F13_s N).X) (h : (F13_s N).pat a b = some x) : a = (F13_s N).args x ∧ b = (F13_s N).bs x := by
  dsimp only [F13_s] at h
  split at h
  · cases h; exact ⟨rfl, rfl⟩
  · cases h
noncomputable def F13_e (N : Nat) : Ent Tryz.prog := entOf (tabOf_ok Tryz.prog) (gam_ok _) mixed 13 Tryz.f13 Tryz.func13 rfl F13_an (lam N [(11, F13_l11 N)]) (by
    have e : actOf F13_an (Tryz.f13.body.getD .skip) 0 = [(11, nthLoop 11 (Tryz.f13.body.getD .skip))] := by kernel_rfl
    rw [e]
    intro p hp
    rcases List.mem_cons.1 hp with rfl | hp
    · exact F13_loop11 N
    cases hp) (F13_s N) (fun _ => ⟨rfl, rfl⟩) (F13_text N) (F13_pat N) (F13_parF N)
/-! ### seismonet/packet.Length (function 22) -/
def F22_an : Nat → Keep × Keep := anL []
noncomputable def F22_g (N : Nat) : GamK := gam (P := Tryz.prog) [F39_e N]
noncomputable def F22_s (N : Nat) : FSpec where
  X := ByteArray
  Y := Int × Int
  ash := [[none]]
  bsh := []
  S := ⟨[[none], [none]], [], [], [], []⟩
  bm := false
  pat := fun a b => match a, b with
    | [(AV.v (.string a0))], [] => some a0
    | _, _ => none
  args := fun x => [(AV.v (.string x))]
  bs := fun x => []
  ret := fun y => ⟨(AV.tup [(AV.v (.int .i64 y.1)), (AV.v (.int .i64 y.2))]), [], none, [], [], []⟩
  t := fun x α k => (match (decide ((x.size : Int) < 31)) with | true => (k (0, 4)) | false => (if 0 ≤ (29 : Int) then (match x[(29 : Int).toNat]? with | some c1 => (if 0 ≤ (30 : Int) then (match x[(30 : Int).toNat]? with | some c2 => (if 0 ≤ (3 : Int) ∧ (3 : Int) ≤ x.size then (match (!((x.extract 0 (3 : Int).toNat).toList == (⟨#[83, 78, 1]⟩ : ByteArray).toList)) with | true => (k (0, 3)) | false => (match F39_d N ((IntKind.i64.wrap (c1.toNat : Int)), 8, 15) with | some y3 => (match (!y3) with | true => (k (0, 3)) | false => (match F39_d N ((IntKind.i64.wrap (c2.toNat : Int)), 1, 8) with | some y4 => (match (!y4) with | true => (k (0, 3)) | false => (k ((i64 ((i64 ((i64 (31 + (IntKind.i64.wrap (c1.toNat : Int)))) + (i64 (64 * (IntKind.i64.wrap (c2.toNat : Int)))))) + 4)), 0))) | none => none)) | none => none)) else none) | none => none) else none) | none => none) else none))
noncomputable abbrev F22_d (N : Nat) (x : ByteArray) : Option (Int × Int) := (F22_s N).d x
theorem F22_parF (N : Nat) : ParF (F22_s N).t := by
  intro x α β k k' r r' h h1
  revert h
  dsimp only [F22_s]
  (repeat' (first | (with_reducible refine par_ite ?_ ?_) | (with_reducible refine par_both ?_ ?_) | split)) <;> intro h <;> first | exact h1 _ h | (cases h; done)
theorem F22_text (N : Nat) (x : (F22_s N).X) : acall (tabOf Tryz.prog) (F22_g N) F22_an (lam N []) Tryz.f22 (F22_s N).S ((F22_s N).args x) ((F22_s N).bs x) = (F22_s N).t x Ret (fun y => some ((F22_s N).ret y)) := by kernel_rfl
theorem F22_pat (N : Nat) (a : List AV) (b : List (List AV)) (x : (F22_s N).X) (h : (F22_s N).pat a b = some x) : a = (F22_s N).args x ∧ b = (F22_s N).bs x := by
  dsimp only [F22_s] at h
  split at h
  · cases h; exact ⟨rfl, rfl⟩
  · cases h
noncomputable def F22_e (N : Nat) : Ent Tryz.prog := entOf (tabOf_ok Tryz.prog) (gam_ok _) mixed 22 Tryz.f22 Tryz.func22 rfl F22_an (lam N []) (by
    have e : actOf F22_an (Tryz.f22.body.getD .skip) 0 = [] := by kernel_rfl
    rw [e]
    intro p hp
    cases hp) (F22_s N) (fun _ => ⟨rfl, rfl⟩) (F22_text N) (F22_pat N) (F22_parF N)
/-! ### (*seismonet/packet.cursor).number (function 72) -/
def F72_an : Nat → Keep × Keep := anL []
noncomputable def F72_g (N : Nat) : GamK := gam (P := Tryz.prog) [F100_e N]
noncomputable def F72_s (N : Nat) : FSpec where
  X := Int × ByteArray × Int
  Y := Int × ByteArray × Int
  ash := [[none], [none]]
  bsh := [[none, none]]
  S := ⟨[[none]], [[none, none]], [], [], []⟩
  bm := false
  pat := fun a b => match a, b with
    | [(AV.ptr 0 0), (AV.v (.int .i64 a0))], [[(AV.v (.string a1)), (AV.v (.int .i64 a2))]] => some (a0, a1, a2)
    | _, _ => none
  args := fun x => [(AV.ptr 0 0), (AV.v (.int .i64 x.1))]
  bs := fun x => [[(AV.v (.string x.2.1)), (AV.v (.int .i64 x.2.2))]]
  ret := fun y => ⟨(AV.v (.int .i64 y.1)), [[(AV.v (.string y.2.1)), (AV.v (.int .i64 y.2.2))]], none, [], [], []⟩
  t := fun x α k => (match F100_d N (x.2.1, x.2.2, x.1) with | some y1 => (k (y1.1, x.2.1, (i64 (x.2.2 + x.1)))) | none => none)
noncomputable abbrev F72_d (N : Nat) (x : Int × ByteArray × Int) : Option (Int × ByteArray × Int) := (F72_s N).d x
theorem F72_parF (N : Nat) : ParF (F72_s N).t := by
  intro x α β k k' r r' h h1
  revert h
  dsimp only [F72_s]
  (repeat' (first | (with_reducible refine par_ite ?_ ?_) | (with_reducible refine par_both ?_ ?_) | split)) <;> intro h <;> first | exact h1 _ h | (cases h; done)
theorem F72_text (N : Nat) (x : (F72_s N).X) : acall (tabOf Tryz.prog) (F72_g N) F72_an (lam N []) Tryz.f72 (F72_s N).S ((F72_s N).args x) ((F72_s N).bs x) = (F72_s N).t x Ret (fun y => some ((F72_s N).ret y)) := by kernel_rfl
theorem F72_pat (N : Nat) (a : List AV) (b : List (List AV)) (x : (F72_s N).X) (h : (F72_s N).pat a b = some x) : a = (F72_s N).args x ∧ b = (F72_s N).bs x := by
  dsimp only [F72_s] at h
  split at h
  · cases h; exact ⟨rfl, rfl⟩
  · cases h
noncomputable def F72_e (N : Nat) : Ent Tryz.prog := entOf (tabOf_ok Tryz.prog) (gam_ok _) mixed 72 Tryz.f72 Tryz.func72 rfl F72_an (lam N []) (by
    have e : actOf F72_an (Tryz.f72.body.getD .skip) 0 = [] := by kernel_rfl
    rw [e]
    intro p hp
    cases hp) (F72_s N) (fun _ => ⟨rfl, rfl⟩) (F72_text N) (F72_pat N) (F72_parF N)
/-! ### (*seismonet/packet.cursor).text (function 74) -/
def F74_an : Nat → Keep × Keep := anL []
noncomputable def F74_g (N : Nat) : GamK := gam (P := Tryz.prog) []
noncomputable def F74_s (N : Nat) : FSpec where
  X := Int × ByteArray × Int
  Y := ByteArray × ByteArray × Int
  ash := [[none], [none]]
  bsh := [[none, none]]
  S := ⟨[[none]], [[none, none]], [], [], []⟩
  bm := false
  pat := fun a b => match a, b with
    | [(AV.ptr 0 0), (AV.v (.int .i64 a0))], [[(AV.v (.string a1)), (AV.v (.int .i64 a2))]] => some (a0, a1, a2)
    | _, _ => none
  args := fun x => [(AV.ptr 0 0), (AV.v (.int .i64 x.1))]
  bs := fun x => [[(AV.v (.string x.2.1)), (AV.v (.int .i64 x.2.2))]]
  ret := fun y => ⟨(AV.v (.string y.1)), [[(AV.v (.string y.2.1)), (AV.v (.int .i64 y.2.2))]], none, [], [], []⟩
  t := fun x α k => (if 0 ≤ (i64 ((i64 (x.2.2 + x.1)) - x.1)) ∧ (i64 ((i64 (x.2.2 + x.1)) - x.1)) ≤ (i64 (x.2.2 + x.1)) ∧ (i64 (x.2.2 + x.1)) ≤ x.2.1.size then (k ((x.2.1.extract (i64 ((i64 (x.2.2 + x.1)) - x.1)).toNat (i64 (x.2.2 + x.1)).toNat), x.2.1, (i64 (x.2.2 + x.1)))) else none)
noncomputable abbrev F74_d (N : Nat) (x : Int × ByteArray × Int) : Option (ByteArray × ByteArray × Int) := (F74_s N).d x
theorem F74_parF (N : Nat) : ParF (F74_s N).t := by
  intro x α β k k' r r' h h1
  revert h
  dsimp only [F74_s]
  (repeat' (first | (with_reducible refine par_ite ?_ ?_) | (with_reducible refine par_both ?_ ?_) | split)) <;> intro h <;> first | exact h1 _ h | (cases h; done)
theorem F74_text (N : Nat) (x : (F74_s N).X) : acall (tabOf Tryz.prog) (F74_g N) F74_an (lam N []) Tryz.f74 (F74_s N).S ((F74_s N).args x) ((F74_s N).bs x) = (F74_s N).t x Ret (fun y => some ((F74_s N).ret y)) := by kernel_rfl
theorem F74_pat (N : Nat) (a : List AV) (b : List (List AV)) (x : (F74_s N).X) (h : (F74_s N).pat a b = some x) : a = (F74_s N).args x ∧ b = (F74_s N).bs x := by
  dsimp only [F74_s] at h
  split at h
  · cases h; exact ⟨rfl, rfl⟩
  · cases h
noncomputable def F74_e (N : Nat) : Ent Tryz.prog := entOf (tabOf_ok Tryz.prog) (gam_ok _) mixed 74 Tryz.f74 Tryz.func74 rfl F74_an (lam N []) (by
    have e : actOf F74_an (Tryz.f74.body.getD .skip) 0 = [] := by kernel_rfl
    rw [e]
    intro p hp
    cases hp) (F74_s N) (fun _ => ⟨rfl, rfl⟩) (F74_text N) (F74_pat N) (F74_parF N)
/-! ### seismonet/source.Parse (function 73) -/
def F73_an : Nat → Keep × Keep := anL []
noncomputable def F73_g (N : Nat) : GamK := gam (P := Tryz.prog) [F101_e N, F37_e N]
noncomputable def F73_s (N : Nat) : FSpec where
  X := ByteArray
  Y := ByteArray × ByteArray × ByteArray × ByteArray × Int
  ash := [[none]]
  bsh := []
  S := ⟨[[none, none, none, none], [none]], [], [], [], []⟩
  bm := false
  pat := fun a b => match a, b with
    | [(AV.v (.string a0))], [] => some a0
    | _, _ => none
  args := fun x => [(AV.v (.string x))]
  bs := fun x => []
  ret := fun y => ⟨(AV.tup [(AV.agg [(AV.v (.string y.1)), (AV.v (.string y.2.1)), (AV.v (.string y.2.2.1)), (AV.v (.string y.2.2.2.1))]), (AV.v (.int .i64 y.2.2.2.2))]), [], none, [], [], []⟩
  t := fun x α k => (match F101_d N (x, (⟨#[46]⟩ : ByteArray)) with | some y1 => (match ((y1.length : Int) != 4) with | true => (k ((⟨#[]⟩ : ByteArray), (⟨#[]⟩ : ByteArray), (⟨#[]⟩ : ByteArray), (⟨#[]⟩ : ByteArray), 3)) | false => (if 0 ≤ (0 : Int) then (match y1[(0 : Int).toNat]? with | some c2 => (match c2[0]? with | some x3 => (match x3 with | .v (.string s4) => (if 0 ≤ (1 : Int) then (match y1[(1 : Int).toNat]? with | some c5 => (match c5[0]? with | some x6 => (match x6 with | .v (.string s7) => (if 0 ≤ (2 : Int) then (match y1[(2 : Int).toNat]? with | some c8 => (match c8[0]? with | some x9 => (match x9 with | .v (.string s10) => (if 0 ≤ (3 : Int) then (match y1[(3 : Int).toNat]? with | some c11 => (match c11[0]? with | some x12 => (match x12 with | .v (.string s13) => (match F37_d N (s4, s7, s10, s13) with | some y14 => (match (!y14) with | true => (k ((⟨#[]⟩ : ByteArray), (⟨#[]⟩ : ByteArray), (⟨#[]⟩ : ByteArray), (⟨#[]⟩ : ByteArray), 3)) | false => (k (s4, s7, s10, s13, 0))) | none => none) | _ => none) | none => none) | none => none) else none) | _ => none) | none => none) | none => none) else none) | _ => none) | none => none) | none => none) else none) | _ => none) | none => none) | none => none) else none)) | none => none)
noncomputable abbrev F73_d (N : Nat) (x : ByteArray) : Option (ByteArray × ByteArray × ByteArray × ByteArray × Int) := (F73_s N).d x
theorem F73_parF (N : Nat) : ParF (F73_s N).t := by
  intro x α β k k' r r' h h1
  revert h
  dsimp only [F73_s]
  (repeat' (first | (with_reducible refine par_ite ?_ ?_) | (with_reducible refine par_both ?_ ?_) | split)) <;> intro h <;> first | exact h1 _ h | (cases h; done)
theorem F73_text (N : Nat) (x : (F73_s N).X) : acall (tabOf Tryz.prog) (F73_g N) F73_an (lam N []) Tryz.f73 (F73_s N).S ((F73_s N).args x) ((F73_s N).bs x) = (F73_s N).t x Ret (fun y => some ((F73_s N).ret y)) := by kernel_rfl
theorem F73_pat (N : Nat) (a : List AV) (b : List (List AV)) (x : (F73_s N).X) (h : (F73_s N).pat a b = some x) : a = (F73_s N).args x ∧ b = (F73_s N).bs x := by
  dsimp only [F73_s] at h
  split at h
  · cases h; exact ⟨rfl, rfl⟩
  · cases h
noncomputable def F73_e (N : Nat) : Ent Tryz.prog := entOf (tabOf_ok Tryz.prog) (gam_ok _) mixed 73 Tryz.f73 Tryz.func73 rfl F73_an (lam N []) (by
    have e : actOf F73_an (Tryz.f73.body.getD .skip) 0 = [] := by kernel_rfl
    rw [e]
    intro p hp
    cases hp) (F73_s N) (fun _ => ⟨rfl, rfl⟩) (F73_text N) (F73_pat N) (F73_parF N)
/-! ### seismonet/packet.read (function 46) -/
def F46_an : Nat → Keep × Keep := anL []
noncomputable def F46_g (N : Nat) : GamK := gam (P := Tryz.prog) [F72_e N, F74_e N, F73_e N, F75_e N]
noncomputable def F46_s (N : Nat) : FSpec where
  X := ByteArray
  Y := ByteArray × ByteArray × ByteArray × ByteArray × Int × Int × Int × Int × Int × Int × Int × (List (List AV)) × Bool
  ash := [[none]]
  bsh := []
  S := ⟨[[none, none, none, none, none, none, none, none, none, none, none, some 1], [none]], [], [], [], []⟩
  bm := false
  pat := fun a b => match a, b with
    | [(AV.v (.string a0))], [] => some a0
    | _, _ => none
  args := fun x => [(AV.v (.string x))]
  bs := fun x => []
  ret := fun y => ⟨(AV.tup [(AV.agg [(AV.v (.string y.1)), (AV.v (.string y.2.1)), (AV.v (.string y.2.2.1)), (AV.v (.string y.2.2.2.1)), (AV.v (.int .i64 y.2.2.2.2.1)), (AV.v (.int .i64 y.2.2.2.2.2.1)), (AV.v (.int .i64 y.2.2.2.2.2.2.1)), (AV.v (.int .i64 y.2.2.2.2.2.2.2.1)), (AV.v (.int .i64 y.2.2.2.2.2.2.2.2.1)), (AV.v (.int .i64 y.2.2.2.2.2.2.2.2.2.1)), (AV.v (.int .i64 y.2.2.2.2.2.2.2.2.2.2.1)), (AV.list 1 y.2.2.2.2.2.2.2.2.2.2.2.1 none)]), (AV.v (.bool y.2.2.2.2.2.2.2.2.2.2.2.2))]), [], none, [], [], []⟩
  t := fun x α k => (match F72_d N (1, x, 3) with | some y1 => (match F72_d N (2, y1.2.1, y1.2.2) with | some y2 => (match F72_d N (4, y2.2.1, y2.2.2) with | some y3 => (match F72_d N (7, y3.2.1, y3.2.2) with | some y4 => (match F72_d N (2, y4.2.1, y4.2.2) with | some y5 => (match F72_d N (2, y5.2.1, y5.2.2) with | some y6 => (match F72_d N (6, y6.2.1, y6.2.2) with | some y7 => (match F72_d N (2, y7.2.1, y7.2.2) with | some y8 => (match F72_d N (1, y8.2.1, y8.2.2) with | some y9 => (match F72_d N (1, y9.2.1, y9.2.2) with | some y10 => (match F74_d N (y9.1, y10.2.1, y10.2.2) with | some y11 => (match F73_d N y11.1 with | some y12 => (match F74_d N ((i64 (64 * y10.1)), y11.2.1, y11.2.2) with | some y13 => (match F75_d N (y13.1, y8.1) with | some y14 => (match (y12.2.2.2.2 == 0) with | true => (k (y12.1, y12.2.1, y12.2.2.1, y12.2.2.2.1, y2.1, y3.1, y4.1, y5.1, y6.1, y1.1, y7.1, y14.1, (y14.2 == 0))) | false => (k (y12.1, y12.2.1, y12.2.2.1, y12.2.2.2.1, y2.1, y3.1, y4.1, y5.1, y6.1, y1.1, y7.1, y14.1, false))) | none => none) | none => none) | none => none) | none => none) | none => none) | none => none) | none => none) | none => none) | none => none) | none => none) | none => none) | none => none) | none => none) | none => none)
noncomputable abbrev F46_d (N : Nat) (x : ByteArray) : Option (ByteArray × ByteArray × ByteArray × ByteArray × Int × Int × Int × Int × Int × Int × Int × (List (List AV)) × Bool) := (F46_s N).d x
theorem F46_parF (N : Nat) : ParF (F46_s N).t := by
  intro x α β k k' r r' h h1
  revert h
  dsimp only [F46_s]
  (repeat' (first | (with_reducible refine par_ite ?_ ?_) | (with_reducible refine par_both ?_ ?_) | split)) <;> intro h <;> first | exact h1 _ h | (cases h; done)
theorem F46_text (N : Nat) (x : (F46_s N).X) : acall (tabOf Tryz.prog) (F46_g N) F46_an (lam N []) Tryz.f46 (F46_s N).S ((F46_s N).args x) ((F46_s N).bs x) = (F46_s N).t x Ret (fun y => some ((F46_s N).ret y)) := by kernel_rfl
theorem F46_pat (N : Nat) (a : List AV) (b : List (List AV)) (x : (F46_s N).X) (h : (F46_s N).pat a b = some x) : a = (F46_s N).args x ∧ b = (F46_s N).bs x := by
  dsimp only [F46_s] at h
  split at h
  · cases h; exact ⟨rfl, rfl⟩
  · cases h
noncomputable def F46_e (N : Nat) : Ent Tryz.prog := entOf (tabOf_ok Tryz.prog) (gam_ok _) mixed 46 Tryz.f46 Tryz.func46 rfl F46_an (lam N []) (by
    have e : actOf F46_an (Tryz.f46.body.getD .skip) 0 = [] := by kernel_rfl
    rw [e]
    intro p hp
    cases hp) (F46_s N) (fun _ => ⟨rfl, rfl⟩) (F46_text N) (F46_pat N) (F46_parF N)
/-! ### seismonet/packet.Decode (function 20) -/
def F20_an : Nat → Keep × Keep := anL []
noncomputable def F20_g (N : Nat) : GamK := gam (P := Tryz.prog) [F22_e N, F45_e N, F46_e N, F13_e N]
noncomputable def F20_s (N : Nat) : FSpec where
  X := ByteArray
  Y := ByteArray × ByteArray × ByteArray × ByteArray × Int × Int × Int × Int × Int × Int × Int × (List (List AV)) × Int
  ash := [[none]]
  bsh := []
  S := ⟨[[none, none, none, none, none, none, none, none, none, none, none, some 1], [none]], [], [], [], []⟩
  bm := false
  pat := fun a b => match a, b with
    | [(AV.v (.string a0))], [] => some a0
    | _, _ => none
  args := fun x => [(AV.v (.string x))]
  bs := fun x => []
  ret := fun y => ⟨(AV.tup [(AV.agg [(AV.v (.string y.1)), (AV.v (.string y.2.1)), (AV.v (.string y.2.2.1)), (AV.v (.string y.2.2.2.1)), (AV.v (.int .i64 y.2.2.2.2.1)), (AV.v (.int .i64 y.2.2.2.2.2.1)), (AV.v (.int .i64 y.2.2.2.2.2.2.1)), (AV.v (.int .i64 y.2.2.2.2.2.2.2.1)), (AV.v (.int .i64 y.2.2.2.2.2.2.2.2.1)), (AV.v (.int .i64 y.2.2.2.2.2.2.2.2.2.1)), (AV.v (.int .i64 y.2.2.2.2.2.2.2.2.2.2.1)), (AV.list 1 y.2.2.2.2.2.2.2.2.2.2.2.1 none)]), (AV.v (.int .i64 y.2.2.2.2.2.2.2.2.2.2.2.2))]), [], none, [], [], []⟩
  t := fun x α k => (match F22_d N x with | some y1 => (match (y1.2 != 0) with | true => (k ((⟨#[]⟩ : ByteArray), (⟨#[]⟩ : ByteArray), (⟨#[]⟩ : ByteArray), (⟨#[]⟩ : ByteArray), 0, 0, 0, 0, 0, 0, 0, ([] : List (List AV)), y1.2)) | false => (match (decide ((x.size : Int) < y1.1)) with | true => (k ((⟨#[]⟩ : ByteArray), (⟨#[]⟩ : ByteArray), (⟨#[]⟩ : ByteArray), (⟨#[]⟩ : ByteArray), 0, 0, 0, 0, 0, 0, 0, ([] : List (List AV)), 4)) | false => (match (decide ((x.size : Int) > y1.1)) with | true => (k ((⟨#[]⟩ : ByteArray), (⟨#[]⟩ : ByteArray), (⟨#[]⟩ : ByteArray), (⟨#[]⟩ : ByteArray), 0, 0, 0, 0, 0, 0, 0, ([] : List (List AV)), 3)) | false => (match F45_d N x with | some y2 => (match (!y2) with | true => (k ((⟨#[]⟩ : ByteArray), (⟨#[]⟩ : ByteArray), (⟨#[]⟩ : ByteArray), (⟨#[]⟩ : ByteArray), 0, 0, 0, 0, 0, 0, 0, ([] : List (List AV)), 5)) | false => (match F46_d N x with | some y3 => (match F13_d N (y3.1, y3.2.1, y3.2.2.1, y3.2.2.2.1, y3.2.2.2.2.1, y3.2.2.2.2.2.1, y3.2.2.2.2.2.2.1, y3.2.2.2.2.2.2.2.1, y3.2.2.2.2.2.2.2.2.1, y3.2.2.2.2.2.2.2.2.2.1, y3.2.2.2.2.2.2.2.2.2.2.1, y3.2.2.2.2.2.2.2.2.2.2.2.1) with | some y4 => (match (!y3.2.2.2.2.2.2.2.2.2.2.2.2) with | true => (k ((⟨#[]⟩ : ByteArray), (⟨#[]⟩ : ByteArray), (⟨#[]⟩ : ByteArray), (⟨#[]⟩ : ByteArray), 0, 0, 0, 0, 0, 0, 0, ([] : List (List AV)), 3)) | false => (match (y4.2 != 0) with | true => (k ((⟨#[]⟩ : ByteArray), (⟨#[]⟩ : ByteArray), (⟨#[]⟩ : ByteArray), (⟨#[]⟩ : ByteArray), 0, 0, 0, 0, 0, 0, 0, ([] : List (List AV)), 3)) | false => (match (!(y4.1.toList == x.toList)) with | true => (k ((⟨#[]⟩ : ByteArray), (⟨#[]⟩ : ByteArray), (⟨#[]⟩ : ByteArray), (⟨#[]⟩ : ByteArray), 0, 0, 0, 0, 0, 0, 0, ([] : List (List AV)), 3)) | false => (k (y3.1, y3.2.1, y3.2.2.1, y3.2.2.2.1, y3.2.2.2.2.1, y3.2.2.2.2.2.1, y3.2.2.2.2.2.2.1, y3.2.2.2.2.2.2.2.1, y3.2.2.2.2.2.2.2.2.1, y3.2.2.2.2.2.2.2.2.2.1, y3.2.2.2.2.2.2.2.2.2.2.1, y3.2.2.2.2.2.2.2.2.2.2.2.1, 0))))) | none => none) | none => none)) | none => none)))) | none => none)
noncomputable abbrev F20_d (N : Nat) (x : ByteArray) : Option (ByteArray × ByteArray × ByteArray × ByteArray × Int × Int × Int × Int × Int × Int × Int × (List (List AV)) × Int) := (F20_s N).d x
theorem F20_parF (N : Nat) : ParF (F20_s N).t := by
  intro x α β k k' r r' h h1
  revert h
  dsimp only [F20_s]
  (repeat' (first | (with_reducible refine par_ite ?_ ?_) | (with_reducible refine par_both ?_ ?_) | split)) <;> intro h <;> first | exact h1 _ h | (cases h; done)
theorem F20_text (N : Nat) (x : (F20_s N).X) : acall (tabOf Tryz.prog) (F20_g N) F20_an (lam N []) Tryz.f20 (F20_s N).S ((F20_s N).args x) ((F20_s N).bs x) = (F20_s N).t x Ret (fun y => some ((F20_s N).ret y)) := by kernel_rfl
theorem F20_pat (N : Nat) (a : List AV) (b : List (List AV)) (x : (F20_s N).X) (h : (F20_s N).pat a b = some x) : a = (F20_s N).args x ∧ b = (F20_s N).bs x := by
  dsimp only [F20_s] at h
  split at h
  · cases h; exact ⟨rfl, rfl⟩
  · cases h
noncomputable def F20_e (N : Nat) : Ent Tryz.prog := entOf (tabOf_ok Tryz.prog) (gam_ok _) mixed 20 Tryz.f20 Tryz.func20 rfl F20_an (lam N []) (by
    have e : actOf F20_an (Tryz.f20.body.getD .skip) 0 = [] := by kernel_rfl
    rw [e]
    intro p hp
    cases hp) (F20_s N) (fun _ => ⟨rfl, rfl⟩) (F20_text N) (F20_pat N) (F20_parF N)
/-! ### seismonet/seismonetref07.Same (function 25) -/
def F25_an : Nat → Keep × Keep := anL []
noncomputable def F25_g (N : Nat) : GamK := gam (P := Tryz.prog) [F43_e N]
noncomputable def F25_s (N : Nat) : FSpec where
  X := ByteArray × ByteArray × ByteArray × ByteArray × Int × Int × Int × Int × Int × Int × Int × (List (List AV)) × ByteArray × ByteArray × ByteArray × ByteArray × Int × Int × Int × Int × Int × Int × Int × (List (List AV))
  Y := Bool
  ash := [[none, none, none, none, none, none, none, none, none, none, none, some 1], [none, none, none, none, none, none, none, none, none, none, none, some 1]]
  bsh := []
  S := ⟨[[none]], [], [], [], []⟩
  bm := false
  pat := fun a b => match a, b with
    | [(AV.agg [(AV.v (.string a0)), (AV.v (.string a1)), (AV.v (.string a2)), (AV.v (.string a3)), (AV.v (.int .i64 a4)), (AV.v (.int .i64 a5)), (AV.v (.int .i64 a6)), (AV.v (.int .i64 a7)), (AV.v (.int .i64 a8)), (AV.v (.int .i64 a9)), (AV.v (.int .i64 a10)), (AV.list 1 a11 none)]), (AV.agg [(AV.v (.string a12)), (AV.v (.string a13)), (AV.v (.string a14)), (AV.v (.string a15)), (AV.v (.int .i64 a16)), (AV.v (.int .i64 a17)), (AV.v (.int .i64 a18)), (AV.v (.int .i64 a19)), (AV.v (.int .i64 a20)), (AV.v (.int .i64 a21)), (AV.v (.int .i64 a22)), (AV.list 1 a23 none)])], [] => some (a0, a1, a2, a3, a4, a5, a6, a7, a8, a9, a10, a11, a12, a13, a14, a15, a16, a17, a18, a19, a20, a21, a22, a23)
    | _, _ => none
  args := fun x => [(AV.agg [(AV.v (.string x.1)), (AV.v (.string x.2.1)), (AV.v (.string x.2.2.1)), (AV.v (.string x.2.2.2.1)), (AV.v (.int .i64 x.2.2.2.2.1)), (AV.v (.int .i64 x.2.2.2.2.2.1)), (AV.v (.int .i64 x.2.2.2.2.2.2.1)), (AV.v (.int .i64 x.2.2.2.2.2.2.2.1)), (AV.v (.int .i64 x.2.2.2.2.2.2.2.2.1)), (AV.v (.int .i64 x.2.2.2.2.2.2.2.2.2.1)), (AV.v (.int .i64 x.2.2.2.2.2.2.2.2.2.2.1)), (AV.list 1 x.2.2.2.2.2.2.2.2.2.2.2.1 none)]), (AV.agg [(AV.v (.string x.2.2.2.2.2.2.2.2.2.2.2.2.1)), (AV.v (.string x.2.2.2.2.2.2.2.2.2.2.2.2.2.1)), (AV.v (.string x.2.2.2.2.2.2.2.2.2.2.2.2.2.2.1)), (AV.v (.string x.2.2.2.2.2.2.2.2.2.2.2.2.2.2.2.1)), (AV.v (.int .i64 x.2.2.2.2.2.2.2.2.2.2.2.2.2.2.2.2.1)), (AV.v (.int .i64 x.2.2.2.2.2.2.2.2.2.2.2.2.2.2.2.2.2.1)), (AV.v (.int .i64 x.2.2.2.2.2.2.2.2.2.2.2.2.2.2.2.2.2.2.1)), (AV.v (.int .i64 x.2.2.2.2.2.2.2.2.2.2.2.2.2.2.2.2.2.2.2.1)), (AV.v (.int .i64 x.2.2.2.2.2.2.2.2.2.2.2.2.2.2.2.2.2.2.2.2.1)), (AV.v (.int .i64 x.2.2.2.2.2.2.2.2.2.2.2.2.2.2.2.2.2.2.2.2.2.1)), (AV.v (.int .i64 x.2.2.2.2.2.2.2.2.2.2.2.2.2.2.2.2.2.2.2.2.2.2.1)), (AV.list 1 x.2.2.2.2.2.2.2.2.2.2.2.2.2.2.2.2.2.2.2.2.2.2.2 none)])]
  bs := fun x => []
  ret := fun y => ⟨(AV.v (.bool y)), [], none, [], [], []⟩
  t := fun x α k => (match ((x.1 == x.2.2.2.2.2.2.2.2.2.2.2.2.1) && ((x.2.1 == x.2.2.2.2.2.2.2.2.2.2.2.2.2.1) && ((x.2.2.1 == x.2.2.2.2.2.2.2.2.2.2.2.2.2.2.1) && ((x.2.2.2.1 == x.2.2.2.2.2.2.2.2.2.2.2.2.2.2.2.1) && true)))) with | true => (match (x.2.2.2.2.1 == x.2.2.2.2.2.2.2.2.2.2.2.2.2.2.2.2.1) with | true => (match (x.2.2.2.2.2.1 == x.2.2.2.2.2.2.2.2.2.2.2.2.2.2.2.2.2.1) with | true => (match (x.2.2.2.2.2.2.1 == x.2.2.2.2.2.2.2.2.2.2.2.2.2.2.2.2.2.2.1) with | true => (match ((x.2.2.2.2.2.2.2.1 == x.2.2.2.2.2.2.2.2.2.2.2.2.2.2.2.2.2.2.2.1) && ((x.2.2.2.2.2.2.2.2.1 == x.2.2.2.2.2.2.2.2.2.2.2.2.2.2.2.2.2.2.2.2.1) && true)) with | true => (match ((x.2.2.2.2.2.2.2.2.2.1 == x.2.2.2.2.2.2.2.2.2.2.2.2.2.2.2.2.2.2.2.2.2.1) && ((x.2.2.2.2.2.2.2.2.2.2.1 == x.2.2.2.2.2.2.2.2.2.2.2.2.2.2.2.2.2.2.2.2.2.2.1) && true)) with | true => (match F43_d N (x.2.2.2.2.2.2.2.2.2.2.2.1, x.2.2.2.2.2.2.2.2.2.2.2.2.2.2.2.2.2.2.2.2.2.2.2) with | some y1 => (k y1) | none => none) | false => (k false)) | false => (k false)) | false => (k false)) | false => (k false)) | false => (k false)) | false => (k false))
noncomputable abbrev F25_d (N : Nat) (x : ByteArray × ByteArray × ByteArray × ByteArray × Int × Int × Int × Int × Int × Int × Int × (List (List AV)) × ByteArray × ByteArray × ByteArray × ByteArray × Int × Int × Int × Int × Int × Int × Int × (List (List AV))) : Option (Bool) := (F25_s N).d x
theorem F25_parF (N : Nat) : ParF (F25_s N).t := by
  intro x α β k k' r r' h h1
  revert h
  dsimp only [F25_s]
  (repeat' (first | (with_reducible refine par_ite ?_ ?_) | (with_reducible refine par_both ?_ ?_) | split)) <;> intro h <;> first | exact h1 _ h | (cases h; done)
theorem F25_text (N : Nat) (x : (F25_s N).X) : acall (tabOf Tryz.prog) (F25_g N) F25_an (lam N []) Tryz.f25 (F25_s N).S ((F25_s N).args x) ((F25_s N).bs x) = (F25_s N).t x Ret (fun y => some ((F25_s N).ret y)) := by kernel_rfl
theorem F25_pat (N : Nat) (a : List AV) (b : List (List AV)) (x : (F25_s N).X) (h : (F25_s N).pat a b = some x) : a = (F25_s N).args x ∧ b = (F25_s N).bs x := by
  dsimp only [F25_s] at h
  split at h
  · cases h; exact ⟨rfl, rfl⟩
  · cases h
noncomputable def F25_e (N : Nat) : Ent Tryz.prog := entOf (tabOf_ok Tryz.prog) (gam_ok _) mixed 25 Tryz.f25 Tryz.func25 rfl F25_an (lam N []) (by
    have e : actOf F25_an (Tryz.f25.body.getD .skip) 0 = [] := by kernel_rfl
    rw [e]
    intro p hp
    cases hp) (F25_s N) (fun _ => ⟨rfl, rfl⟩) (F25_text N) (F25_pat N) (F25_parF N)
/-! ### seismonet/seismonetlaw07.sane (function 6) -/
def F6_an : Nat → Keep × Keep := anL []
noncomputable def F6_g (N : Nat) : GamK := gam (P := Tryz.prog) [F13_e N, F22_e N, F20_e N, F25_e N, F16_e N]
noncomputable def F6_s (N : Nat) : FSpec where
  X := Unit
  Y := Bool
  ash := []
  bsh := []
  S := ⟨[[none]], [], [], [], []⟩
  bm := false
  pat := fun a b => match a, b with
    | [], [] => some ()
    | _, _ => none
  args := fun x => []
  bs := fun x => []
  ret := fun y => ⟨(AV.v (.bool y)), [], none, [], [], []⟩
  t := fun x α k => (match F13_d N ((⟨#[71, 82]⟩ : ByteArray), (⟨#[70, 85, 82]⟩ : ByteArray), (⟨#[]⟩ : ByteArray), (⟨#[72, 72, 90]⟩ : ByteArray), 0, 0, 0, 100, 1, 0, 0, [[(AV.v (.int .i64 7))]]) with | some y1 => (match F22_d N y1.1 with | some y2 => (match F20_d N y1.1 with | some y3 => (match (y1.2 == 0) with | true => (match (y2.2 == 0) with | true => (match (y3.2.2.2.2.2.2.2.2.2.2.2.2 == 0) with | true => (match ((y1.1.size : Int) == 110) with | true => (match (y2.1 == 110) with | true => (match F25_d N ((⟨#[71, 82]⟩ : ByteArray), (⟨#[70, 85, 82]⟩ : ByteArray), (⟨#[]⟩ : ByteArray), (⟨#[72, 72, 90]⟩ : ByteArray), 0, 0, 0, 100, 1, 0, 0, [[(AV.v (.int .i64 7))]], y3.1, y3.2.1, y3.2.2.1, y3.2.2.2.1, y3.2.2.2.2.1, y3.2.2.2.2.2.1, y3.2.2.2.2.2.2.1, y3.2.2.2.2.2.2.2.1, y3.2.2.2.2.2.2.2.2.1, y3.2.2.2.2.2.2.2.2.2.1, y3.2.2.2.2.2.2.2.2.2.2.1, y3.2.2.2.2.2.2.2.2.2.2.2.1) with | some y4 => (match y4 with | true => (match F16_d N ((⟨#[71, 82]⟩ : ByteArray), (⟨#[70, 85, 82]⟩ : ByteArray), (⟨#[]⟩ : ByteArray), (⟨#[72, 72, 90]⟩ : ByteArray), 0, 0, 0, 100, 1, 0, 0, [[(AV.v (.int .i64 7))]]) with | some y5 => (k y5) | none => none) | false => (k false)) | none => none) | false => (k false)) | false => (k false)) | false => (k false)) | false => (k false)) | false => (k false)) | none => none) | none => none) | none => none)
noncomputable abbrev F6_d (N : Nat) (x : Unit) : Option (Bool) := (F6_s N).d x
theorem F6_parF (N : Nat) : ParF (F6_s N).t := by
  intro x α β k k' r r' h h1
  revert h
  dsimp only [F6_s]
  (repeat' (first | (with_reducible refine par_ite ?_ ?_) | (with_reducible refine par_both ?_ ?_) | split)) <;> intro h <;> first | exact h1 _ h | (cases h; done)
theorem F6_text (N : Nat) (x : (F6_s N).X) : acall (tabOf Tryz.prog) (F6_g N) F6_an (lam N []) Tryz.f6 (F6_s N).S ((F6_s N).args x) ((F6_s N).bs x) = (F6_s N).t x Ret (fun y => some ((F6_s N).ret y)) := by kernel_rfl
theorem F6_pat (N : Nat) (a : List AV) (b : List (List AV)) (x : (F6_s N).X) (h : (F6_s N).pat a b = some x) : a = (F6_s N).args x ∧ b = (F6_s N).bs x := by
  dsimp only [F6_s] at h
  split at h
  · cases h; exact ⟨rfl, rfl⟩
  · cases h
noncomputable def F6_e (N : Nat) : Ent Tryz.prog := entOf (tabOf_ok Tryz.prog) (gam_ok _) mixed 6 Tryz.f6 Tryz.func6 rfl F6_an (lam N []) (by
    have e : actOf F6_an (Tryz.f6.body.getD .skip) 0 = [] := by kernel_rfl
    rw [e]
    intro p hp
    cases hp) (F6_s N) (fun _ => ⟨rfl, rfl⟩) (F6_text N) (F6_pat N) (F6_parF N)
/-! ### (*seismonet/seismonetmade.Dice).Next (function 8) -/
def F8_an : Nat → Keep × Keep := anL []
noncomputable def F8_g (N : Nat) : GamK := gam (P := Tryz.prog) []
noncomputable def F8_s (N : Nat) : FSpec where
  X := Int × (List (List AV)) × Int
  Y := Int × (List (List AV)) × Int
  ash := [[none], [none]]
  bsh := [[some 1, none]]
  S := ⟨[[none]], [[some 1, none]], [], [], []⟩
  bm := false
  pat := fun a b => match a, b with
    | [(AV.ptr 0 0), (AV.v (.int .i64 a0))], [[(AV.list 1 a1 none), (AV.v (.int .i64 a2))]] => some (a0, a1, a2)
    | _, _ => none
  args := fun x => [(AV.ptr 0 0), (AV.v (.int .i64 x.1))]
  bs := fun x => [[(AV.list 1 x.2.1 none), (AV.v (.int .i64 x.2.2))]]
  ret := fun y => ⟨(AV.v (.int .i64 y.1)), [[(AV.list 1 y.2.1 none), (AV.v (.int .i64 y.2.2))]], none, [], [], []⟩
  t := fun x α k => (match (decide (x.2.2 ≥ (x.2.1.length : Int))) with | true => (k (0, x.2.1, x.2.2)) | false => (match (decide (x.1 < 1)) with | true => (k (0, x.2.1, x.2.2)) | false => (if 0 ≤ x.2.2 then (match x.2.1[x.2.2.toNat]? with | some c1 => (match c1[0]? with | some x2 => (match x2 with | .v (.int q4 n3) => (if q4 = .i64 then (if x.1 = 0 then none else (match (decide ((n3.tmod x.1) < 0)) with | true => (k ((i64 ((n3.tmod x.1) + x.1)), x.2.1, (i64 (x.2.2 + 1)))) | false => (k ((n3.tmod x.1), x.2.1, (i64 (x.2.2 + 1)))))) else none) | _ => none) | none => none) | none => none) else none)))
noncomputable abbrev F8_d (N : Nat) (x : Int × (List (List AV)) × Int) : Option (Int × (List (List AV)) × Int) := (F8_s N).d x
theorem F8_parF (N : Nat) : ParF (F8_s N).t := by
  intro x α β k k' r r' h h1
  revert h
  dsimp only [F8_s]
  (repeat' (first | (with_reducible refine par_ite ?_ ?_) | (with_reducible refine par_both ?_ ?_) | split)) <;> intro h <;> first | exact h1 _ h | (cases h; done)
theorem F8_text (N : Nat) (x : (F8_s N).X) : acall (tabOf Tryz.prog) (F8_g N) F8_an (lam N []) Tryz.f8 (F8_s N).S ((F8_s N).args x) ((F8_s N).bs x) = (F8_s N).t x Ret (fun y => some ((F8_s N).ret y)) := by kernel_rfl
theorem F8_pat (N : Nat) (a : List AV) (b : List (List AV)) (x : (F8_s N).X) (h : (F8_s N).pat a b = some x) : a = (F8_s N).args x ∧ b = (F8_s N).bs x := by
  dsimp only [F8_s] at h
  split at h
  · cases h; exact ⟨rfl, rfl⟩
  · cases h
noncomputable def F8_e (N : Nat) : Ent Tryz.prog := entOf (tabOf_ok Tryz.prog) (gam_ok _) mixed 8 Tryz.f8 Tryz.func8 rfl F8_an (lam N []) (by
    have e : actOf F8_an (Tryz.f8.body.getD .skip) 0 = [] := by kernel_rfl
    rw [e]
    intro p hp
    cases hp) (F8_s N) (fun _ => ⟨rfl, rfl⟩) (F8_text N) (F8_pat N) (F8_parF N)
/-! ### (*seismonet/seismonetmade.Dice).Source (function 29) -/
def F29_an : Nat → Keep × Keep := anL []
noncomputable def F29_g (N : Nat) : GamK := gam (P := Tryz.prog) [F8_e N]
noncomputable def F29_s (N : Nat) : FSpec where
  X := (List (List AV)) × Int
  Y := ByteArray × ByteArray × ByteArray × ByteArray × (List (List AV)) × Int
  ash := [[none]]
  bsh := [[some 1, none]]
  S := ⟨[[none, none, none, none]], [[some 1, none]], [], [], []⟩
  bm := false
  pat := fun a b => match a, b with
    | [(AV.ptr 0 0)], [[(AV.list 1 a0 none), (AV.v (.int .i64 a1))]] => some (a0, a1)
    | _, _ => none
  args := fun x => [(AV.ptr 0 0)]
  bs := fun x => [[(AV.list 1 x.1 none), (AV.v (.int .i64 x.2))]]
  ret := fun y => ⟨(AV.agg [(AV.v (.string y.1)), (AV.v (.string y.2.1)), (AV.v (.string y.2.2.1)), (AV.v (.string y.2.2.2.1))]), [[(AV.list 1 y.2.2.2.2.1 none), (AV.v (.int .i64 y.2.2.2.2.2))]], none, [], [], []⟩
  t := fun x α k => (match F8_d N (3, x.1, x.2) with | some y1 => (if 0 ≤ y1.1 then (match [[(AV.v (.string (⟨#[71, 82]⟩ : ByteArray)))], [(AV.v (.string (⟨#[88]⟩ : ByteArray)))], [(AV.v (.string (⟨#[55, 65]⟩ : ByteArray)))]][y1.1.toNat]? with | some c2 => (match c2[0]? with | some x3 => (match x3 with | .v (.string s4) => (match F8_d N (4, y1.2.1, y1.2.2) with | some y5 => (if 0 ≤ y5.1 then (match [[(AV.v (.string (⟨#[70, 85, 82]⟩ : ByteArray)))], [(AV.v (.string (⟨#[65]⟩ : ByteArray)))], [(AV.v (.string (⟨#[65, 66, 67, 68, 69]⟩ : ByteArray)))], [(AV.v (.string (⟨#[70, 85]⟩ : ByteArray)))]][y5.1.toNat]? with | some c6 => (match c6[0]? with | some x7 => (match x7 with | .v (.string s8) => (match F8_d N (3, y5.2.1, y5.2.2) with | some y9 => (if 0 ≤ y9.1 then (match [[(AV.v (.string (⟨#[]⟩ : ByteArray)))], [(AV.v (.string (⟨#[48, 48]⟩ : ByteArray)))], [(AV.v (.string (⟨#[49, 48]⟩ : ByteArray)))]][y9.1.toNat]? with | some c10 => (match c10[0]? with | some x11 => (match x11 with | .v (.string s12) => (match F8_d N (3, y9.2.1, y9.2.2) with | some y13 => (if 0 ≤ y13.1 then (match [[(AV.v (.string (⟨#[72, 72, 90]⟩ : ByteArray)))], [(AV.v (.string (⟨#[72, 72, 78]⟩ : ByteArray)))], [(AV.v (.string (⟨#[66, 72, 90]⟩ : ByteArray)))]][y13.1.toNat]? with | some c14 => (match c14[0]? with | some x15 => (match x15 with | .v (.string s16) => (k (s4, s8, s12, s16, y13.2.1, y13.2.2)) | _ => none) | none => none) | none => none) else none) | none => none) | _ => none) | none => none) | none => none) else none) | none => none) | _ => none) | none => none) | none => none) else none) | none => none) | _ => none) | none => none) | none => none) else none) | none => none)
noncomputable abbrev F29_d (N : Nat) (x : (List (List AV)) × Int) : Option (ByteArray × ByteArray × ByteArray × ByteArray × (List (List AV)) × Int) := (F29_s N).d x
theorem F29_parF (N : Nat) : ParF (F29_s N).t := by
  intro x α β k k' r r' h h1
  revert h
  dsimp only [F29_s]
  (repeat' (first | (with_reducible refine par_ite ?_ ?_) | (with_reducible refine par_both ?_ ?_) | split)) <;> intro h <;> first | exact h1 _ h | (cases h; done)
theorem F29_text (N : Nat) (x : (F29_s N).X) : acall (tabOf Tryz.prog) (F29_g N) F29_an (lam N []) Tryz.f29 (F29_s N).S ((F29_s N).args x) ((F29_s N).bs x) = (F29_s N).t x Ret (fun y => some ((F29_s N).ret y)) := by kernel_rfl
theorem F29_pat (N : Nat) (a : List AV) (b : List (List AV)) (x : (F29_s N).X) (h : (F29_s N).pat a b = some x) : a = (F29_s N).args x ∧ b = (F29_s N).bs x := by
  dsimp only [F29_s] at h
  split at h
  · cases h; exact ⟨rfl, rfl⟩
  · cases h
noncomputable def F29_e (N : Nat) : Ent Tryz.prog := entOf (tabOf_ok Tryz.prog) (gam_ok _) mixed 29 Tryz.f29 Tryz.func29 rfl F29_an (lam N []) (by
    have e : actOf F29_an (Tryz.f29.body.getD .skip) 0 = [] := by kernel_rfl
    rw [e]
    intro p hp
    cases hp) (F29_s N) (fun _ => ⟨rfl, rfl⟩) (F29_text N) (F29_pat N) (F29_parF N)
/-! ### (*seismonet/seismonetmade.Dice).Pick (function 30) -/
def F30_an : Nat → Keep × Keep := anL []
noncomputable def F30_g (N : Nat) : GamK := gam (P := Tryz.prog) [F8_e N]
noncomputable def F30_s (N : Nat) : FSpec where
  X := (List (List AV)) × (List (List AV)) × Int
  Y := Int × (List (List AV)) × Int
  ash := [[none], [some 1]]
  bsh := [[some 1, none]]
  S := ⟨[[none]], [[some 1, none]], [], [], []⟩
  bm := false
  pat := fun a b => match a, b with
    | [(AV.ptr 0 0), (AV.list 1 a0 none)], [[(AV.list 1 a1 none), (AV.v (.int .i64 a2))]] => some (a0, a1, a2)
    | _, _ => none
  args := fun x => [(AV.ptr 0 0), (AV.list 1 x.1 none)]
  bs := fun x => [[(AV.list 1 x.2.1 none), (AV.v (.int .i64 x.2.2))]]
  ret := fun y => ⟨(AV.v (.int .i64 y.1)), [[(AV.list 1 y.2.1 none), (AV.v (.int .i64 y.2.2))]], none, [], [], []⟩
  t := fun x α k => (match F8_d N ((x.1.length : Int), x.2.1, x.2.2) with | some y1 => (if 0 ≤ y1.1 then (match x.1[y1.1.toNat]? with | some c2 => (match c2[0]? with | some x3 => (match x3 with | .v (.int q5 n4) => (if q5 = .i64 then (k (n4, y1.2.1, y1.2.2)) else none) | _ => none) | none => none) | none => none) else none) | none => none)
noncomputable abbrev F30_d (N : Nat) (x : (List (List AV)) × (List (List AV)) × Int) : Option (Int × (List (List AV)) × Int) := (F30_s N).d x
theorem F30_parF (N : Nat) : ParF (F30_s N).t := by
  intro x α β k k' r r' h h1
  revert h
  dsimp only [F30_s]
  (repeat' (first | (with_reducible refine par_ite ?_ ?_) | (with_reducible refine par_both ?_ ?_) | split)) <;> intro h <;> first | exact h1 _ h | (cases h; done)
theorem F30_text (N : Nat) (x : (F30_s N).X) : acall (tabOf Tryz.prog) (F30_g N) F30_an (lam N []) Tryz.f30 (F30_s N).S ((F30_s N).args x) ((F30_s N).bs x) = (F30_s N).t x Ret (fun y => some ((F30_s N).ret y)) := by kernel_rfl
theorem F30_pat (N : Nat) (a : List AV) (b : List (List AV)) (x : (F30_s N).X) (h : (F30_s N).pat a b = some x) : a = (F30_s N).args x ∧ b = (F30_s N).bs x := by
  dsimp only [F30_s] at h
  split at h
  · cases h; exact ⟨rfl, rfl⟩
  · cases h
noncomputable def F30_e (N : Nat) : Ent Tryz.prog := entOf (tabOf_ok Tryz.prog) (gam_ok _) mixed 30 Tryz.f30 Tryz.func30 rfl F30_an (lam N []) (by
    have e : actOf F30_an (Tryz.f30.body.getD .skip) 0 = [] := by kernel_rfl
    rw [e]
    intro p hp
    cases hp) (F30_s N) (fun _ => ⟨rfl, rfl⟩) (F30_text N) (F30_pat N) (F30_parF N)
/-! ### seismonet/seismonetref02.gcd (function 70) -/
def F70_an : Nat → Keep × Keep := anL [(3, ⟨[0, 1], [], [], [], [], [], [], [], false⟩, ⟨[0], [], [], [], [], [], [], [], false⟩)]
noncomputable def F70_g (N : Nat) : GamK := gam (P := Tryz.prog) []
noncomputable def F70_l3 (N : Nat) : LSpec where
  X := Int × Int
  Y := (Int)
  p := fun s => match s.env.length, s.nin, s.at 0, s.at 1 with
    | 12, 0, (AV.v (.int .i64 a0)), (AV.v (.int .i64 a1)) => some (a0, a1)
    | _, _, _, _ => none
  st := fun x => mkS 12 [(0, (AV.v (.int .i64 x.1))), (1, (AV.v (.int .i64 x.2)))] [] (F70_an 3).1.toks 0
  out := fun y => (.exit 0, mkS 12 [(0, (AV.v (.int .i64 y)))] [] (F70_an 3).2.toks 0)
  sp := fun y α k => k (.exit 0, mkS 12 [(0, (AV.v (.int .i64 y)))] [] (F70_an 3).2.toks 0)
  spe := fun y α k => rfl
  b := fun x α kn ke => (match (x.2 != 0) with | true => (if x.2 = 0 then none else (kn (x.2, (x.1.tmod x.2)))) | false => (ke x.1))
noncomputable abbrev F70_d3 (N : Nat) (x : Int × Int) : Option ((Int)) := (F70_l3 N).L N x
noncomputable def F70_s (N : Nat) : FSpec where
  X := Int × Int
  Y := Int
  ash := [[none], [none]]
  bsh := []
  S := ⟨[[none]], [], [], [], []⟩
  bm := false
  pat := fun a b => match a, b with
    | [(AV.v (.int .i64 a0)), (AV.v (.int .i64 a1))], [] => some (a0, a1)
    | _, _ => none
  args := fun x => [(AV.v (.int .i64 x.1)), (AV.v (.int .i64 x.2))]
  bs := fun x => []
  ret := fun y => ⟨(AV.v (.int .i64 y)), [], none, [], [], []⟩
  t := fun x α k => (match F70_d3 N (x.1, x.2) with | some y1 => (k y1) | none => none)
noncomputable abbrev F70_d (N : Nat) (x : Int × Int) : Option (Int) := (F70_s N).d x
theorem F70_par3 (N : Nat) : Par (F70_l3 N).b := by
  intro x α β kn ke kn' ke' r r' h h1 h2
  revert h
  dsimp only [F70_l3]
  (repeat' (first | (with_reducible refine par_ite ?_ ?_) | (with_reducible refine par_both ?_ ?_) | split)) <;> intro h <;> first | exact h1 _ h | exact h2 _ h | (cases h; done)
theorem F70_body3 (N : Nat) (x : (F70_l3 N).X) (α : Type) (kn : AS → Option α) (ke : Out → Option α) : around (tabOf Tryz.prog) (F70_g N) F70_an (lam N [(3, F70_l3 N)]) 3 (bodyOf (nthLoop 3 (Tryz.f70.body.getD .skip))) ((F70_l3 N).st x) kn ke = (F70_l3 N).b x α (fun x' => kn ((F70_l3 N).st x')) (fun y => (F70_l3 N).sp y α ke) := by kernel_rfl
theorem F70_pat3 (N : Nat) (s : AS) (x : (F70_l3 N).X) (hc : s = canon (F70_an 3).1 s) (h : (F70_l3 N).p s = some x) : s = (F70_l3 N).st x := by
  dsimp only [F70_l3] at h
  split at h
  · cases h
    exact canon_mk hc ‹_› ‹_› rfl rfl rfl ⟨‹_›, ‹_›, trivial⟩ trivial
  · cases h
theorem F70_loop3 (N : Nat) : ∀ s o, s = canon (F70_an 3).1 s → (lam N [(3, F70_l3 N)]).v 3 s = some o → LoopSem Tryz.prog (nthLoop 3 (Tryz.f70.body.getD .skip)) s o :=
  loop_ok (tabOf_ok Tryz.prog) (gam_ok _) mixed F70_an N [(3, F70_l3 N)] 3 (bodyOf (nthLoop 3 (Tryz.f70.body.getD .skip))) (nthLoop 3 (Tryz.f70.body.getD .skip)) (by kernel_rfl) (by
    have e : actOf F70_an (bodyOf (nthLoop 3 (Tryz.f70.body.getD .skip))) (3 + 1) = [] := by kernel_rfl
    rw [e]
    intro p hp
    cases hp) (F70_l3 N) rfl (fun s x hc h => F70_pat3 N s x hc h) (fun x => rfl) (fun x α kn ke => (F70_body3 N x α kn ke).trans (congrArg ((F70_l3 N).b x α _) (funext fun y => (F70_l3 N).spe y α ke))) (F70_par3 N)
theorem F70_parF (N : Nat) : ParF (F70_s N).t := by
  intro x α β k k' r r' h h1
  revert h
  dsimp only [F70_s]
  (repeat' (first | (with_reducible refine par_ite ?_ ?_) | (with_reducible refine par_both ?_ ?_) | split)) <;> intro h <;> first | exact h1 _ h | (cases h; done)
theorem F70_text (N : Nat) (x : (F70_s N).X) : acall (tabOf Tryz.prog) (F70_g N) F70_an (lam N [(3, F70_l3 N)]) Tryz.f70 (F70_s N).S ((F70_s N).args x) ((F70_s N).bs x) = (F70_s N).t x Ret (fun y => some ((F70_s N).ret y)) := by kernel_rfl
theorem F70_pat (N : Nat) (a : List AV) (b : List (List AV)) (x : (F70_s N).X) (h : (F70_s N).pat a b = some x) : a = (F70_s N).args x ∧ b = (F70_s N).bs x := by
  dsimp only [F70_s] at h
  split at h
  · cases h; exact ⟨rfl, rfl⟩
  · cases h
noncomputable def F70_e (N : Nat) : Ent Tryz.prog := entOf (tabOf_ok Tryz.prog) (gam_ok _) mixed 70 Tryz.f70 Tryz.func70 rfl F70_an (lam N [(3, F70_l3 N)]) (by
    have e : actOf F70_an (Tryz.f70.body.getD .skip) 0 = [(3, nthLoop 3 (Tryz.f70.body.getD .skip))] := by kernel_rfl
    rw [e]
    intro p hp
    rcases List.mem_cons.1 hp with rfl | hp
    · exact F70_loop3 N
    cases hp) (F70_s N) (fun _ => ⟨rfl, rfl⟩) (F70_text N) (F70_pat N) (F70_parF N)
/-! ### seismonet/seismonetref02.New (function 57) -/
def F57_an : Nat → Keep × Keep := anL []
noncomputable def F57_g (N : Nat) : GamK := gam (P := Tryz.prog) [F42_e N, F70_e N]
noncomputable def F57_s (N : Nat) : FSpec where
  X := Int × Int
  Y := Int × Int × Int
  ash := [[none], [none]]
  bsh := []
  S := ⟨[[none, none], [none]], [], [], [], []⟩
  bm := false
  pat := fun a b => match a, b with
    | [(AV.v (.int .i64 a0)), (AV.v (.int .i64 a1))], [] => some (a0, a1)
    | _, _ => none
  args := fun x => [(AV.v (.int .i64 x.1)), (AV.v (.int .i64 x.2))]
  bs := fun x => []
  ret := fun y => ⟨(AV.tup [(AV.agg [(AV.v (.int .i64 y.1)), (AV.v (.int .i64 y.2.1))]), (AV.v (.int .i64 y.2.2))]), [], none, [], [], []⟩
  t := fun x α k => (match F42_d N (x.1, 1, 4096) with | some y1 => (match (!y1) with | true => (k (0, 0, 2)) | false => (match F42_d N (x.2, 1, 4096) with | some y2 => (match (!y2) with | true => (k (0, 0, 2)) | false => (match F70_d N (x.1, x.2) with | some y3 => (if y3 = 0 then none else (if y3 = 0 then none else (k ((i64 (x.1.tdiv y3)), (i64 (x.2.tdiv y3)), 0)))) | none => none)) | none => none)) | none => none)
noncomputable abbrev F57_d (N : Nat) (x : Int × Int) : Option (Int × Int × Int) := (F57_s N).d x
theorem F57_parF (N : Nat) : ParF (F57_s N).t := by
  intro x α β k k' r r' h h1
  revert h
  dsimp only [F57_s]
  (repeat' (first | (with_reducible refine par_ite ?_ ?_) | (with_reducible refine par_both ?_ ?_) | split)) <;> intro h <;> first | exact h1 _ h | (cases h; done)
theorem F57_text (N : Nat) (x : (F57_s N).X) : acall (tabOf Tryz.prog) (F57_g N) F57_an (lam N []) Tryz.f57 (F57_s N).S ((F57_s N).args x) ((F57_s N).bs x) = (F57_s N).t x Ret (fun y => some ((F57_s N).ret y)) := by kernel_rfl
theorem F57_pat (N : Nat) (a : List AV) (b : List (List AV)) (x : (F57_s N).X) (h : (F57_s N).pat a b = some x) : a = (F57_s N).args x ∧ b = (F57_s N).bs x := by
  dsimp only [F57_s] at h
  split at h
  · cases h; exact ⟨rfl, rfl⟩
  · cases h
noncomputable def F57_e (N : Nat) : Ent Tryz.prog := entOf (tabOf_ok Tryz.prog) (gam_ok _) mixed 57 Tryz.f57 Tryz.func57 rfl F57_an (lam N []) (by
    have e : actOf F57_an (Tryz.f57.body.getD .skip) 0 = [] := by kernel_rfl
    rw [e]
    intro p hp
    cases hp) (F57_s N) (fun _ => ⟨rfl, rfl⟩) (F57_text N) (F57_pat N) (F57_parF N)
/-! ### (*seismonet/seismonetmade.Dice).Rate (function 31) -/
def F31_an : Nat → Keep × Keep := anL []
noncomputable def F31_g (N : Nat) : GamK := gam (P := Tryz.prog) [F30_e N, F57_e N]
noncomputable def F31_s (N : Nat) : FSpec where
  X := (List (List AV)) × Int
  Y := Int × Int × (List (List AV)) × Int
  ash := [[none]]
  bsh := [[some 1, none]]
  S := ⟨[[none, none]], [[some 1, none]], [], [], []⟩
  bm := false
  pat := fun a b => match a, b with
    | [(AV.ptr 0 0)], [[(AV.list 1 a0 none), (AV.v (.int .i64 a1))]] => some (a0, a1)
    | _, _ => none
  args := fun x => [(AV.ptr 0 0)]
  bs := fun x => [[(AV.list 1 x.1 none), (AV.v (.int .i64 x.2))]]
  ret := fun y => ⟨(AV.agg [(AV.v (.int .i64 y.1)), (AV.v (.int .i64 y.2.1))]), [[(AV.list 1 y.2.2.1 none), (AV.v (.int .i64 y.2.2.2))]], none, [], [], []⟩
  t := fun x α k => (match F30_d N ([[(AV.v (.int .i64 1))], [(AV.v (.int .i64 3))], [(AV.v (.int .i64 20))], [(AV.v (.int .i64 100))], [(AV.v (.int .i64 40))], [(AV.v (.int .i64 4096))], [(AV.v (.int .i64 7))]], x.1, x.2) with | some y1 => (match F30_d N ([[(AV.v (.int .i64 1))], [(AV.v (.int .i64 1))], [(AV.v (.int .i64 1))], [(AV.v (.int .i64 3))], [(AV.v (.int .i64 7))], [(AV.v (.int .i64 4096))]], y1.2.1, y1.2.2) with | some y2 => (match F57_d N (y1.1, y2.1) with | some y3 => (k (y3.1, y3.2.1, y2.2.1, y2.2.2)) | none => none) | none => none) | none => none)
noncomputable abbrev F31_d (N : Nat) (x : (List (List AV)) × Int) : Option (Int × Int × (List (List AV)) × Int) := (F31_s N).d x
theorem F31_parF (N : Nat) : ParF (F31_s N).t := by
  intro x α β k k' r r' h h1
  revert h
  dsimp only [F31_s]
  (repeat' (first | (with_reducible refine par_ite ?_ ?_) | (with_reducible refine par_both ?_ ?_) | split)) <;> intro h <;> first | exact h1 _ h | (cases h; done)
theorem F31_text (N : Nat) (x : (F31_s N).X) : acall (tabOf Tryz.prog) (F31_g N) F31_an (lam N []) Tryz.f31 (F31_s N).S ((F31_s N).args x) ((F31_s N).bs x) = (F31_s N).t x Ret (fun y => some ((F31_s N).ret y)) := by kernel_rfl
theorem F31_pat (N : Nat) (a : List AV) (b : List (List AV)) (x : (F31_s N).X) (h : (F31_s N).pat a b = some x) : a = (F31_s N).args x ∧ b = (F31_s N).bs x := by
  dsimp only [F31_s] at h
  split at h
  · cases h; exact ⟨rfl, rfl⟩
  · cases h
noncomputable def F31_e (N : Nat) : Ent Tryz.prog := entOf (tabOf_ok Tryz.prog) (gam_ok _) mixed 31 Tryz.f31 Tryz.func31 rfl F31_an (lam N []) (by
    have e : actOf F31_an (Tryz.f31.body.getD .skip) 0 = [] := by kernel_rfl
    rw [e]
    intro p hp
    cases hp) (F31_s N) (fun _ => ⟨rfl, rfl⟩) (F31_text N) (F31_pat N) (F31_parF N)
/-! ### (*seismonet/seismonetmade.Dice).Samples (function 32) -/
def F32_an : Nat → Keep × Keep := anL [(6, ⟨[0, 6, 7], [(5, 1)], [0], [], [], [], [], [], false⟩, ⟨[], [(5, 1)], [0], [], [], [], [], [], false⟩)]
noncomputable def F32_g (N : Nat) : GamK := gam (P := Tryz.prog) [F30_e N, F8_e N]
noncomputable def F32_l6 (N : Nat) : LSpec where
  X := (List (List AV)) × Int × Int × (List (List AV)) × Int
  Y := ((List (List AV)) × (List (List AV)) × Int)
  p := fun s => match s.env.length, s.nin, s.at 5, s.at 0, s.at 6, s.at 7, s.bx 0 with
    | 53, 1, (AV.list 1 a0 (some 1280000320)), (AV.ptr 0 0), (AV.v (.int .i64 a1)), (AV.v (.int .i64 a2)), some [(AV.list 1 a3 none), (AV.v (.int .i64 a4))] => some (a0, a1, a2, a3, a4)
    | _, _, _, _, _, _, _ => none
  st := fun x => mkS 53 [(5, (AV.list 1 x.1 (some 1280000320))), (0, (AV.ptr 0 0)), (6, (AV.v (.int .i64 x.2.1))), (7, (AV.v (.int .i64 x.2.2.1)))] [(0, [(AV.list 1 x.2.2.2.1 none), (AV.v (.int .i64 x.2.2.2.2))])] (F32_an 6).1.toks 1
  out := fun y => (.exit 0, mkS 53 [(5, (AV.list 1 y.1 (some 1280000320)))] [(0, [(AV.list 1 y.2.1 none), (AV.v (.int .i64 y.2.2))])] (F32_an 6).2.toks 1)
  sp := fun y α k => k (.exit 0, mkS 53 [(5, (AV.list 1 y.1 (some 1280000320)))] [(0, [(AV.list 1 y.2.1 none), (AV.v (.int .i64 y.2.2))])] (F32_an 6).2.toks 1)
  spe := fun y α k => rfl
  b := fun x α kn ke => (match (decide (x.2.2.1 > 0)) with | true => (match F8_d N (10, x.2.2.2.1, x.2.2.2.2) with | some y8 => (match (y8.1 == 0) with | true => (match F30_d N ([[(AV.v (.int .i64 127))], [(AV.v (.int .i64 128))], [(AV.v (.int .i64 (-128)))], [(AV.v (.int .i64 (-129)))], [(AV.v (.int .i64 300))]], y8.2.1, y8.2.2) with | some y9 => (if (x.1.length + [[(AV.v (.int .i64 (if 1073741823 < (if (-1073741823) > (i64 (x.2.1 + y9.1)) then (-1073741823) else (i64 (x.2.1 + y9.1))) then 1073741823 else (if (-1073741823) > (i64 (x.2.1 + y9.1)) then (-1073741823) else (i64 (x.2.1 + y9.1))))))]].length) * 8 ≤ maxBytes then (kn ((x.1 ++ [[(AV.v (.int .i64 (if 1073741823 < (if (-1073741823) > (i64 (x.2.1 + y9.1)) then (-1073741823) else (i64 (x.2.1 + y9.1))) then 1073741823 else (if (-1073741823) > (i64 (x.2.1 + y9.1)) then (-1073741823) else (i64 (x.2.1 + y9.1))))))]]), (if 1073741823 < (if (-1073741823) > (i64 (x.2.1 + y9.1)) then (-1073741823) else (i64 (x.2.1 + y9.1))) then 1073741823 else (if (-1073741823) > (i64 (x.2.1 + y9.1)) then (-1073741823) else (i64 (x.2.1 + y9.1)))), (i64 (x.2.2.1 - 1)), y9.2.1, y9.2.2)) else none) | none => none) | false => (match (y8.1 == 1) with | true => (match F30_d N ([[(AV.v (.int .i64 32767))], [(AV.v (.int .i64 32768))], [(AV.v (.int .i64 (-32768)))], [(AV.v (.int .i64 (-32769)))]], y8.2.1, y8.2.2) with | some y10 => (if (x.1.length + [[(AV.v (.int .i64 (if 1073741823 < (if (-1073741823) > (i64 (x.2.1 + y10.1)) then (-1073741823) else (i64 (x.2.1 + y10.1))) then 1073741823 else (if (-1073741823) > (i64 (x.2.1 + y10.1)) then (-1073741823) else (i64 (x.2.1 + y10.1))))))]].length) * 8 ≤ maxBytes then (kn ((x.1 ++ [[(AV.v (.int .i64 (if 1073741823 < (if (-1073741823) > (i64 (x.2.1 + y10.1)) then (-1073741823) else (i64 (x.2.1 + y10.1))) then 1073741823 else (if (-1073741823) > (i64 (x.2.1 + y10.1)) then (-1073741823) else (i64 (x.2.1 + y10.1))))))]]), (if 1073741823 < (if (-1073741823) > (i64 (x.2.1 + y10.1)) then (-1073741823) else (i64 (x.2.1 + y10.1))) then 1073741823 else (if (-1073741823) > (i64 (x.2.1 + y10.1)) then (-1073741823) else (i64 (x.2.1 + y10.1)))), (i64 (x.2.2.1 - 1)), y10.2.1, y10.2.2)) else none) | none => none) | false => (match (y8.1 == 2) with | true => (match F30_d N ([[(AV.v (.int .i64 0))], [(AV.v (.int .i64 1073741823))], [(AV.v (.int .i64 (-1073741823)))], [(AV.v (.int .i64 536870912))]], y8.2.1, y8.2.2) with | some y11 => (if (x.1.length + [[(AV.v (.int .i64 (if 1073741823 < (if (-1073741823) > y11.1 then (-1073741823) else y11.1) then 1073741823 else (if (-1073741823) > y11.1 then (-1073741823) else y11.1))))]].length) * 8 ≤ maxBytes then (kn ((x.1 ++ [[(AV.v (.int .i64 (if 1073741823 < (if (-1073741823) > y11.1 then (-1073741823) else y11.1) then 1073741823 else (if (-1073741823) > y11.1 then (-1073741823) else y11.1))))]]), (if 1073741823 < (if (-1073741823) > y11.1 then (-1073741823) else y11.1) then 1073741823 else (if (-1073741823) > y11.1 then (-1073741823) else y11.1)), (i64 (x.2.2.1 - 1)), y11.2.1, y11.2.2)) else none) | none => none) | false => (match F8_d N (9, y8.2.1, y8.2.2) with | some y12 => (if (x.1.length + [[(AV.v (.int .i64 (if 1073741823 < (if (-1073741823) > (i64 (x.2.1 + (i64 (y12.1 - 4)))) then (-1073741823) else (i64 (x.2.1 + (i64 (y12.1 - 4))))) then 1073741823 else (if (-1073741823) > (i64 (x.2.1 + (i64 (y12.1 - 4)))) then (-1073741823) else (i64 (x.2.1 + (i64 (y12.1 - 4))))))))]].length) * 8 ≤ maxBytes then (kn ((x.1 ++ [[(AV.v (.int .i64 (if 1073741823 < (if (-1073741823) > (i64 (x.2.1 + (i64 (y12.1 - 4)))) then (-1073741823) else (i64 (x.2.1 + (i64 (y12.1 - 4))))) then 1073741823 else (if (-1073741823) > (i64 (x.2.1 + (i64 (y12.1 - 4)))) then (-1073741823) else (i64 (x.2.1 + (i64 (y12.1 - 4))))))))]]), (if 1073741823 < (if (-1073741823) > (i64 (x.2.1 + (i64 (y12.1 - 4)))) then (-1073741823) else (i64 (x.2.1 + (i64 (y12.1 - 4))))) then 1073741823 else (if (-1073741823) > (i64 (x.2.1 + (i64 (y12.1 - 4)))) then (-1073741823) else (i64 (x.2.1 + (i64 (y12.1 - 4)))))), (i64 (x.2.2.1 - 1)), y12.2.1, y12.2.2)) else none) | none => none)))) | none => none) | false => (ke (x.1, x.2.2.2.1, x.2.2.2.2)))
noncomputable abbrev F32_d6 (N : Nat) (x : (List (List AV)) × Int × Int × (List (List AV)) × Int) : Option (((List (List AV)) × (List (List AV)) × Int)) := (F32_l6 N).L N x
noncomputable def F32_s (N : Nat) : FSpec where
  X := Int × (List (List AV)) × Int
  Y := (List (List AV)) × (List (List AV)) × Int
  ash := [[none], [none]]
  bsh := [[some 1, none]]
  S := ⟨[[some 2000001]], [[some 1, none]], [], [], []⟩
  bm := false
  pat := fun a b => match a, b with
    | [(AV.ptr 0 0), (AV.v (.int .i64 a0))], [[(AV.list 1 a1 none), (AV.v (.int .i64 a2))]] => some (a0, a1, a2)
    | _, _ => none
  args := fun x => [(AV.ptr 0 0), (AV.v (.int .i64 x.1))]
  bs := fun x => [[(AV.list 1 x.2.1 none), (AV.v (.int .i64 x.2.2))]]
  ret := fun y => ⟨(AV.list 1 y.1 (some 2560000000)), [[(AV.list 1 y.2.1 none), (AV.v (.int .i64 y.2.2))]], none, [], [2560000000], []⟩
  t := fun x α k => (match F30_d N ([[(AV.v (.int .i64 0))], [(AV.v (.int .i64 5))], [(AV.v (.int .i64 (-100)))], [(AV.v (.int .i64 1000))]], x.2.1, x.2.2) with | some y1 => (match F8_d N (x.1, y1.2.1, y1.2.2) with | some y2 => (match F32_d6 N (([] : List (List AV)), y1.1, (i64 (1 + y2.1)), y2.2.1, y2.2.2) with | some y13 => (k (y13.1, y13.2.1, y13.2.2)) | none => none) | none => none) | none => none)
noncomputable abbrev F32_d (N : Nat) (x : Int × (List (List AV)) × Int) : Option ((List (List AV)) × (List (List AV)) × Int) := (F32_s N).d x
theorem F32_par6 (N : Nat) : Par (F32_l6 N).b := by
  intro x α β kn ke kn' ke' r r' h h1 h2
  revert h
  dsimp only [F32_l6]
  (repeat' (first | (with_reducible refine par_ite ?_ ?_) | (with_reducible refine par_both ?_ ?_) | split)) <;> intro h <;> first | exact h1 _ h | exact h2 _ h | (cases h; done)
theorem F32_body6 (N : Nat) (x : (F32_l6 N).X) (α : Type) (kn : AS → Option α) (ke : Out → Option α) : around (tabOf Tryz.prog) (F32_g N) F32_an (lam N [(6, F32_l6 N)]) 6 (bodyOf (nthLoop 6 (Tryz.f32.body.getD .skip))) ((F32_l6 N).st x) kn ke = (F32_l6 N).b x α (fun x' => kn ((F32_l6 N).st x')) (fun y => (F32_l6 N).sp y α ke) := by kernel_rfl
theorem F32_pat6 (N : Nat) (s : AS) (x : (F32_l6 N).X) (hc : s = canon (F32_an 6).1 s) (h : (F32_l6 N).p s = some x) : s = (F32_l6 N).st x := by
  dsimp only [F32_l6] at h
  split at h
  · cases h
    exact canon_mk hc ‹_› ‹_› rfl rfl rfl ⟨‹_›, ‹_›, ‹_›, ‹_›, trivial⟩ ⟨‹_›, trivial⟩
  · cases h
theorem F32_loop6 (N : Nat) : ∀ s o, s = canon (F32_an 6).1 s → (lam N [(6, F32_l6 N)]).v 6 s = some o → LoopSem Tryz.prog (nthLoop 6 (Tryz.f32.body.getD .skip)) s o :=
  loop_ok (tabOf_ok Tryz.prog) (gam_ok _) mixed F32_an N [(6, F32_l6 N)] 6 (bodyOf (nthLoop 6 (Tryz.f32.body.getD .skip))) (nthLoop 6 (Tryz.f32.body.getD .skip)) (by kernel_rfl) (by
    have e : actOf F32_an (bodyOf (nthLoop 6 (Tryz.f32.body.getD .skip))) (6 + 1) = [] := by kernel_rfl
    rw [e]
    intro p hp
    cases hp) (F32_l6 N) rfl (fun s x hc h => F32_pat6 N s x hc h) (fun x => rfl) (fun x α kn ke => (F32_body6 N x α kn ke).trans (congrArg ((F32_l6 N).b x α _) (funext fun y => (F32_l6 N).spe y α ke))) (F32_par6 N)
theorem F32_parF (N : Nat) : ParF (F32_s N).t := by
  intro x α β k k' r r' h h1
  revert h
  dsimp only [F32_s]
  (repeat' (first | (with_reducible refine par_ite ?_ ?_) | (with_reducible refine par_both ?_ ?_) | split)) <;> intro h <;> first | exact h1 _ h | (cases h; done)
theorem F32_text (N : Nat) (x : (F32_s N).X) : acall (tabOf Tryz.prog) (F32_g N) F32_an (lam N [(6, F32_l6 N)]) Tryz.f32 (F32_s N).S ((F32_s N).args x) ((F32_s N).bs x) = (F32_s N).t x Ret (fun y => some ((F32_s N).ret y)) := by kernel_rfl
theorem F32_pat (N : Nat) (a : List AV) (b : List (List AV)) (x : (F32_s N).X) (h : (F32_s N).pat a b = some x) : a = (F32_s N).args x ∧ b = (F32_s N).bs x := by
  dsimp only [F32_s] at h
  split at h
  · cases h; exact ⟨rfl, rfl⟩
  · cases h
noncomputable def F32_e (N : Nat) : Ent Tryz.prog := entOf (tabOf_ok Tryz.prog) (gam_ok _) mixed 32 Tryz.f32 Tryz.func32 rfl F32_an (lam N [(6, F32_l6 N)]) (by
    have e : actOf F32_an (Tryz.f32.body.getD .skip) 0 = [(6, nthLoop 6 (Tryz.f32.body.getD .skip))] := by kernel_rfl
    rw [e]
    intro p hp
    rcases List.mem_cons.1 hp with rfl | hp
    · exact F32_loop6 N
    cases hp) (F32_s N) (fun _ => ⟨rfl, rfl⟩) (F32_text N) (F32_pat N) (F32_parF N)
/-! ### (*seismonet/seismonetmade.Dice).Packet (function 10) -/
def F10_an : Nat → Keep × Keep := anL []
noncomputable def F10_g (N : Nat) : GamK := gam (P := Tryz.prog) [F29_e N, F30_e N, F31_e N, F8_e N, F32_e N]
noncomputable def F10_s (N : Nat) : FSpec where
  X := (List (List AV)) × Int
  Y := ByteArray × ByteArray × ByteArray × ByteArray × Int × Int × Int × Int × Int × Int × Int × (List (List AV)) × (List (List AV)) × Int
  ash := [[none]]
  bsh := [[some 1, none]]
  S := ⟨[[none, none, none, none, none, none, none, none, none, none, none, some 1]], [[some 1, none]], [], [], []⟩
  bm := false
  pat := fun a b => match a, b with
    | [(AV.ptr 0 0)], [[(AV.list 1 a0 none), (AV.v (.int .i64 a1))]] => some (a0, a1)
    | _, _ => none
  args := fun x => [(AV.ptr 0 0)]
  bs := fun x => [[(AV.list 1 x.1 none), (AV.v (.int .i64 x.2))]]
  ret := fun y => ⟨(AV.agg [(AV.v (.string y.1)), (AV.v (.string y.2.1)), (AV.v (.string y.2.2.1)), (AV.v (.string y.2.2.2.1)), (AV.v (.int .i64 y.2.2.2.2.1)), (AV.v (.int .i64 y.2.2.2.2.2.1)), (AV.v (.int .i64 y.2.2.2.2.2.2.1)), (AV.v (.int .i64 y.2.2.2.2.2.2.2.1)), (AV.v (.int .i64 y.2.2.2.2.2.2.2.2.1)), (AV.v (.int .i64 y.2.2.2.2.2.2.2.2.2.1)), (AV.v (.int .i64 y.2.2.2.2.2.2.2.2.2.2.1)), (AV.list 1 y.2.2.2.2.2.2.2.2.2.2.2.1 none)]), [[(AV.list 1 y.2.2.2.2.2.2.2.2.2.2.2.2.1 none), (AV.v (.int .i64 y.2.2.2.2.2.2.2.2.2.2.2.2.2))]], none, [], [], []⟩
  t := fun x α k => (match F29_d N (x.1, x.2) with | some y1 => (match F30_d N ([[(AV.v (.int .i64 0))], [(AV.v (.int .i64 1))], [(AV.v (.int .i64 65535))]], y1.2.2.2.2.1, y1.2.2.2.2.2) with | some y2 => (match F30_d N ([[(AV.v (.int .i64 0))], [(AV.v (.int .i64 7))], [(AV.v (.int .i64 1073741824))]], y2.2.1, y2.2.2) with | some y3 => (match F30_d N ([[(AV.v (.int .i64 0))], [(AV.v (.int .i64 1000000000000))], [(AV.v (.int .i64 9007199254740992))]], y3.2.1, y3.2.2) with | some y4 => (match F31_d N (y4.2.1, y4.2.2) with | some y5 => (match F8_d N (3, y5.2.2.1, y5.2.2.2) with | some y6 => (match F30_d N ([[(AV.v (.int .i64 0))], [(AV.v (.int .i64 50))], [(AV.v (.int .i64 1099511627776))]], y6.2.1, y6.2.2) with | some y7 => (match F32_d N (24, y7.2.1, y7.2.2) with | some y8 => (k (y1.1, y1.2.1, y1.2.2.1, y1.2.2.2.1, y2.1, y3.1, y4.1, y5.1, y5.2.1, y6.1, y7.1, y8.1, y8.2.1, y8.2.2)) | none => none) | none => none) | none => none) | none => none) | none => none) | none => none) | none => none) | none => none)
noncomputable abbrev F10_d (N : Nat) (x : (List (List AV)) × Int) : Option (ByteArray × ByteArray × ByteArray × ByteArray × Int × Int × Int × Int × Int × Int × Int × (List (List AV)) × (List (List AV)) × Int) := (F10_s N).d x
theorem F10_parF (N : Nat) : ParF (F10_s N).t := by
  intro x α β k k' r r' h h1
  revert h
  dsimp only [F10_s]
  (repeat' (first | (with_reducible refine par_ite ?_ ?_) | (with_reducible refine par_both ?_ ?_) | split)) <;> intro h <;> first | exact h1 _ h | (cases h; done)
theorem F10_text (N : Nat) (x : (F10_s N).X) : acall (tabOf Tryz.prog) (F10_g N) F10_an (lam N []) Tryz.f10 (F10_s N).S ((F10_s N).args x) ((F10_s N).bs x) = (F10_s N).t x Ret (fun y => some ((F10_s N).ret y)) := by kernel_rfl
theorem F10_pat (N : Nat) (a : List AV) (b : List (List AV)) (x : (F10_s N).X) (h : (F10_s N).pat a b = some x) : a = (F10_s N).args x ∧ b = (F10_s N).bs x := by
  dsimp only [F10_s] at h
  split at h
  · cases h; exact ⟨rfl, rfl⟩
  · cases h
noncomputable def F10_e (N : Nat) : Ent Tryz.prog := entOf (tabOf_ok Tryz.prog) (gam_ok _) mixed 10 Tryz.f10 Tryz.func10 rfl F10_an (lam N []) (by
    have e : actOf F10_an (Tryz.f10.body.getD .skip) 0 = [] := by kernel_rfl
    rw [e]
    intro p hp
    cases hp) (F10_s N) (fun _ => ⟨rfl, rfl⟩) (F10_text N) (F10_pat N) (F10_parF N)
/-! ### seismonet/seismonetref03.Valid (function 40) -/
def F40_an : Nat → Keep × Keep := anL []
noncomputable def F40_g (N : Nat) : GamK := gam (P := Tryz.prog) [F69_e N]
noncomputable def F40_s (N : Nat) : FSpec where
  X := ByteArray × ByteArray × ByteArray × ByteArray
  Y := Bool
  ash := [[none, none, none, none]]
  bsh := []
  S := ⟨[[none]], [], [], [], []⟩
  bm := false
  pat := fun a b => match a, b with
    | [(AV.agg [(AV.v (.string a0)), (AV.v (.string a1)), (AV.v (.string a2)), (AV.v (.string a3))])], [] => some (a0, a1, a2, a3)
    | _, _ => none
  args := fun x => [(AV.agg [(AV.v (.string x.1)), (AV.v (.string x.2.1)), (AV.v (.string x.2.2.1)), (AV.v (.string x.2.2.2))])]
  bs := fun x => []
  ret := fun y => ⟨(AV.v (.bool y)), [], none, [], [], []⟩
  t := fun x α k => (match F69_d N (x.1, 1, 2) with | some y1 => (match y1 with | true => (match F69_d N (x.2.1, 1, 5) with | some y2 => (match y2 with | true => (match (x.2.2.1.toList == (⟨#[]⟩ : ByteArray).toList) with | true => (match F69_d N (x.2.2.2, 3, 3) with | some y3 => (k y3) | none => none) | false => (match F69_d N (x.2.2.1, 2, 2) with | some y4 => (match y4 with | true => (match F69_d N (x.2.2.2, 3, 3) with | some y5 => (k y5) | none => none) | false => (k false)) | none => none)) | false => (k false)) | none => none) | false => (k false)) | none => none)
noncomputable abbrev F40_d (N : Nat) (x : ByteArray × ByteArray × ByteArray × ByteArray) : Option (Bool) := (F40_s N).d x
theorem F40_parF (N : Nat) : ParF (F40_s N).t := by
  intro x α β k k' r r' h h1
  revert h
  dsimp only [F40_s]
  (repeat' (first | (with_reducible refine par_ite ?_ ?_) | (with_reducible refine par_both ?_ ?_) | split)) <;> intro h <;> first | exact h1 _ h | (cases h; done)
theorem F40_text (N : Nat) (x : (F40_s N).X) : acall (tabOf Tryz.prog) (F40_g N) F40_an (lam N []) Tryz.f40 (F40_s N).S ((F40_s N).args x) ((F40_s N).bs x) = (F40_s N).t x Ret (fun y => some ((F40_s N).ret y)) := by kernel_rfl
theorem F40_pat (N : Nat) (a : List AV) (b : List (List AV)) (x : (F40_s N).X) (h : (F40_s N).pat a b = some x) : a = (F40_s N).args x ∧ b = (F40_s N).bs x := by
  dsimp only [F40_s] at h
  split at h
  · cases h; exact ⟨rfl, rfl⟩
  · cases h
noncomputable def F40_e (N : Nat) : Ent Tryz.prog := entOf (tabOf_ok Tryz.prog) (gam_ok _) mixed 40 Tryz.f40 Tryz.func40 rfl F40_an (lam N []) (by
    have e : actOf F40_an (Tryz.f40.body.getD .skip) 0 = [] := by kernel_rfl
    rw [e]
    intro p hp
    cases hp) (F40_s N) (fun _ => ⟨rfl, rfl⟩) (F40_text N) (F40_pat N) (F40_parF N)
/-! ### seismonet/seismonetref02.Valid (function 41) -/
def F41_an : Nat → Keep × Keep := anL []
noncomputable def F41_g (N : Nat) : GamK := gam (P := Tryz.prog) [F42_e N, F70_e N]
noncomputable def F41_s (N : Nat) : FSpec where
  X := Int × Int
  Y := Bool
  ash := [[none, none]]
  bsh := []
  S := ⟨[[none]], [], [], [], []⟩
  bm := false
  pat := fun a b => match a, b with
    | [(AV.agg [(AV.v (.int .i64 a0)), (AV.v (.int .i64 a1))])], [] => some (a0, a1)
    | _, _ => none
  args := fun x => [(AV.agg [(AV.v (.int .i64 x.1)), (AV.v (.int .i64 x.2))])]
  bs := fun x => []
  ret := fun y => ⟨(AV.v (.bool y)), [], none, [], [], []⟩
  t := fun x α k => (match F42_d N (x.1, 1, 4096) with | some y1 => (match y1 with | true => (match F42_d N (x.2, 1, 4096) with | some y2 => (match y2 with | true => (match F70_d N (x.1, x.2) with | some y3 => (k (y3 == 1)) | none => none) | false => (k false)) | none => none) | false => (k false)) | none => none)
noncomputable abbrev F41_d (N : Nat) (x : Int × Int) : Option (Bool) := (F41_s N).d x
theorem F41_parF (N : Nat) : ParF (F41_s N).t := by
  intro x α β k k' r r' h h1
  revert h
  dsimp only [F41_s]
  (repeat' (first | (with_reducible refine par_ite ?_ ?_) | (with_reducible refine par_both ?_ ?_) | split)) <;> intro h <;> first | exact h1 _ h | (cases h; done)
theorem F41_text (N : Nat) (x : (F41_s N).X) : acall (tabOf Tryz.prog) (F41_g N) F41_an (lam N []) Tryz.f41 (F41_s N).S ((F41_s N).args x) ((F41_s N).bs x) = (F41_s N).t x Ret (fun y => some ((F41_s N).ret y)) := by kernel_rfl
theorem F41_pat (N : Nat) (a : List AV) (b : List (List AV)) (x : (F41_s N).X) (h : (F41_s N).pat a b = some x) : a = (F41_s N).args x ∧ b = (F41_s N).bs x := by
  dsimp only [F41_s] at h
  split at h
  · cases h; exact ⟨rfl, rfl⟩
  · cases h
noncomputable def F41_e (N : Nat) : Ent Tryz.prog := entOf (tabOf_ok Tryz.prog) (gam_ok _) mixed 41 Tryz.f41 Tryz.func41 rfl F41_an (lam N []) (by
    have e : actOf F41_an (Tryz.f41.body.getD .skip) 0 = [] := by kernel_rfl
    rw [e]
    intro p hp
    cases hp) (F41_s N) (fun _ => ⟨rfl, rfl⟩) (F41_text N) (F41_pat N) (F41_parF N)
/-! ### seismonet/seismonetref07.Valid (function 17) -/
def F17_an : Nat → Keep × Keep := anL []
noncomputable def F17_g (N : Nat) : GamK := gam (P := Tryz.prog) [F40_e N, F41_e N, F42_e N, F27_e N]
noncomputable def F17_s (N : Nat) : FSpec where
  X := ByteArray × ByteArray × ByteArray × ByteArray × Int × Int × Int × Int × Int × Int × Int × (List (List AV))
  Y := Bool
  ash := [[none, none, none, none, none, none, none, none, none, none, none, some 1]]
  bsh := []
  S := ⟨[[none]], [], [], [], []⟩
  bm := false
  pat := fun a b => match a, b with
    | [(AV.agg [(AV.v (.string a0)), (AV.v (.string a1)), (AV.v (.string a2)), (AV.v (.string a3)), (AV.v (.int .i64 a4)), (AV.v (.int .i64 a5)), (AV.v (.int .i64 a6)), (AV.v (.int .i64 a7)), (AV.v (.int .i64 a8)), (AV.v (.int .i64 a9)), (AV.v (.int .i64 a10)), (AV.list 1 a11 none)])], [] => some (a0, a1, a2, a3, a4, a5, a6, a7, a8, a9, a10, a11)
    | _, _ => none
  args := fun x => [(AV.agg [(AV.v (.string x.1)), (AV.v (.string x.2.1)), (AV.v (.string x.2.2.1)), (AV.v (.string x.2.2.2.1)), (AV.v (.int .i64 x.2.2.2.2.1)), (AV.v (.int .i64 x.2.2.2.2.2.1)), (AV.v (.int .i64 x.2.2.2.2.2.2.1)), (AV.v (.int .i64 x.2.2.2.2.2.2.2.1)), (AV.v (.int .i64 x.2.2.2.2.2.2.2.2.1)), (AV.v (.int .i64 x.2.2.2.2.2.2.2.2.2.1)), (AV.v (.int .i64 x.2.2.2.2.2.2.2.2.2.2.1)), (AV.list 1 x.2.2.2.2.2.2.2.2.2.2.2 none)])]
  bs := fun x => []
  ret := fun y => ⟨(AV.v (.bool y)), [], none, [], [], []⟩
  t := fun x α k => (match F40_d N (x.1, x.2.1, x.2.2.1, x.2.2.2.1) with | some y1 => (match (!y1) with | true => (k false) | false => (match F41_d N (x.2.2.2.2.2.2.2.1, x.2.2.2.2.2.2.2.2.1) with | some y2 => (match (!y2) with | true => (k false) | false => (match F42_d N (x.2.2.2.2.1, 0, 65535) with | some y3 => (match (!y3) with | true => (k false) | false => (match F42_d N (x.2.2.2.2.2.1, 0, 1073741824) with | some y4 => (match (!y4) with | true => (k false) | false => (match F42_d N (x.2.2.2.2.2.2.1, 0, 9007199254740992) with | some y5 => (match (!y5) with | true => (k false) | false => (match F42_d N (x.2.2.2.2.2.2.2.2.2.1, 0, 2) with | some y6 => (match (!y6) with | true => (k false) | false => (match F42_d N (x.2.2.2.2.2.2.2.2.2.2.1, 0, 1099511627776) with | some y7 => (match (!y7) with | true => (k false) | false => (match F42_d N ((x.2.2.2.2.2.2.2.2.2.2.2.length : Int), 1, 420) with | some y8 => (match (!y8) with | true => (k false) | false => (match F27_d N x.2.2.2.2.2.2.2.2.2.2.2 with | some y9 => (k (y9.2 == 0)) | none => none)) | none => none)) | none => none)) | none => none)) | none => none)) | none => none)) | none => none)) | none => none)) | none => none)
noncomputable abbrev F17_d (N : Nat) (x : ByteArray × ByteArray × ByteArray × ByteArray × Int × Int × Int × Int × Int × Int × Int × (List (List AV))) : Option (Bool) := (F17_s N).d x
theorem F17_parF (N : Nat) : ParF (F17_s N).t := by
  intro x α β k k' r r' h h1
  revert h
  dsimp only [F17_s]
  (repeat' (first | (with_reducible refine par_ite ?_ ?_) | (with_reducible refine par_both ?_ ?_) | split)) <;> intro h <;> first | exact h1 _ h | (cases h; done)
theorem F17_text (N : Nat) (x : (F17_s N).X) : acall (tabOf Tryz.prog) (F17_g N) F17_an (lam N []) Tryz.f17 (F17_s N).S ((F17_s N).args x) ((F17_s N).bs x) = (F17_s N).t x Ret (fun y => some ((F17_s N).ret y)) := by kernel_rfl
theorem F17_pat (N : Nat) (a : List AV) (b : List (List AV)) (x : (F17_s N).X) (h : (F17_s N).pat a b = some x) : a = (F17_s N).args x ∧ b = (F17_s N).bs x := by
  dsimp only [F17_s] at h
  split at h
  · cases h; exact ⟨rfl, rfl⟩
  · cases h
noncomputable def F17_e (N : Nat) : Ent Tryz.prog := entOf (tabOf_ok Tryz.prog) (gam_ok _) mixed 17 Tryz.f17 Tryz.func17 rfl F17_an (lam N []) (by
    have e : actOf F17_an (Tryz.f17.body.getD .skip) 0 = [] := by kernel_rfl
    rw [e]
    intro p hp
    cases hp) (F17_s N) (fun _ => ⟨rfl, rfl⟩) (F17_text N) (F17_pat N) (F17_parF N)
/-! ### seismonet/seismonetref03.Format (function 26) -/
def F26_an : Nat → Keep × Keep := anL []
noncomputable def F26_g (N : Nat) : GamK := gam (P := Tryz.prog) [F40_e N]
noncomputable def F26_s (N : Nat) : FSpec where
  X := ByteArray × ByteArray × ByteArray × ByteArray
  Y := ByteArray × Int
  ash := [[none, none, none, none]]
  bsh := []
  S := ⟨[[none], [none]], [], [], [], []⟩
  bm := false
  pat := fun a b => match a, b with
    | [(AV.agg [(AV.v (.string a0)), (AV.v (.string a1)), (AV.v (.string a2)), (AV.v (.string a3))])], [] => some (a0, a1, a2, a3)
    | _, _ => none
  args := fun x => [(AV.agg [(AV.v (.string x.1)), (AV.v (.string x.2.1)), (AV.v (.string x.2.2.1)), (AV.v (.string x.2.2.2))])]
  bs := fun x => []
  ret := fun y => ⟨(AV.tup [(AV.v (.string y.1)), (AV.v (.int .i64 y.2))]), [], none, [], [], []⟩
  t := fun x α k => (match F40_d N (x.1, x.2.1, x.2.2.1, x.2.2.2) with | some y1 => (match (!y1) with | true => (k ((⟨#[]⟩ : ByteArray), 1)) | false => (if x.1.size + (⟨#[46]⟩ : ByteArray).size ≤ 9223372036854775807 then (if (x.1 ++ (⟨#[46]⟩ : ByteArray)).size + x.2.1.size ≤ 9223372036854775807 then (if ((x.1 ++ (⟨#[46]⟩ : ByteArray)) ++ x.2.1).size + (⟨#[46]⟩ : ByteArray).size ≤ 9223372036854775807 then (if (((x.1 ++ (⟨#[46]⟩ : ByteArray)) ++ x.2.1) ++ (⟨#[46]⟩ : ByteArray)).size + x.2.2.1.size ≤ 9223372036854775807 then (if ((((x.1 ++ (⟨#[46]⟩ : ByteArray)) ++ x.2.1) ++ (⟨#[46]⟩ : ByteArray)) ++ x.2.2.1).size + (⟨#[46]⟩ : ByteArray).size ≤ 9223372036854775807 then (if (((((x.1 ++ (⟨#[46]⟩ : ByteArray)) ++ x.2.1) ++ (⟨#[46]⟩ : ByteArray)) ++ x.2.2.1) ++ (⟨#[46]⟩ : ByteArray)).size + x.2.2.2.size ≤ 9223372036854775807 then (k (((((((x.1 ++ (⟨#[46]⟩ : ByteArray)) ++ x.2.1) ++ (⟨#[46]⟩ : ByteArray)) ++ x.2.2.1) ++ (⟨#[46]⟩ : ByteArray)) ++ x.2.2.2), 0)) else none) else none) else none) else none) else none) else none)) | none => none)
noncomputable abbrev F26_d (N : Nat) (x : ByteArray × ByteArray × ByteArray × ByteArray) : Option (ByteArray × Int) := (F26_s N).d x
theorem F26_parF (N : Nat) : ParF (F26_s N).t := by
  intro x α β k k' r r' h h1
  revert h
  dsimp only [F26_s]
  (repeat' (first | (with_reducible refine par_ite ?_ ?_) | (with_reducible refine par_both ?_ ?_) | split)) <;> intro h <;> first | exact h1 _ h | (cases h; done)
theorem F26_text (N : Nat) (x : (F26_s N).X) : acall (tabOf Tryz.prog) (F26_g N) F26_an (lam N []) Tryz.f26 (F26_s N).S ((F26_s N).args x) ((F26_s N).bs x) = (F26_s N).t x Ret (fun y => some ((F26_s N).ret y)) := by kernel_rfl
theorem F26_pat (N : Nat) (a : List AV) (b : List (List AV)) (x : (F26_s N).X) (h : (F26_s N).pat a b = some x) : a = (F26_s N).args x ∧ b = (F26_s N).bs x := by
  dsimp only [F26_s] at h
  split at h
  · cases h; exact ⟨rfl, rfl⟩
  · cases h
noncomputable def F26_e (N : Nat) : Ent Tryz.prog := entOf (tabOf_ok Tryz.prog) (gam_ok _) mixed 26 Tryz.f26 Tryz.func26 rfl F26_an (lam N []) (by
    have e : actOf F26_an (Tryz.f26.body.getD .skip) 0 = [] := by kernel_rfl
    rw [e]
    intro p hp
    cases hp) (F26_s N) (fun _ => ⟨rfl, rfl⟩) (F26_text N) (F26_pat N) (F26_parF N)
/-! ### seismonet/seismonetref07.Encode (function 9) -/
def F9_an : Nat → Keep × Keep := anL [(11, ⟨[4, 6, 8, 63, 64], [], [], [], [], [], [], [], false⟩, ⟨[4, 6, 8], [], [], [], [], [], [], [], false⟩)]
noncomputable def F9_g (N : Nat) : GamK := gam (P := Tryz.prog) [F17_e N, F26_e N, F27_e N, F28_e N, F19_e N]
noncomputable def F9_l11 (N : Nat) : LSpec where
  X := ByteArray × ByteArray × ByteArray × Int × Int × Int × Int × Int × Int × Int × Int × Int × Int × Int × Int × Int × Int × Int × Int × Int × Int × Int × Int × Int × Int × Int
  Y := (ByteArray × ByteArray × ByteArray)
  p := fun s => match s.env.length, s.nin, s.at 4, s.at 6, s.at 8, s.at 63, s.at 64 with
    | 83, 0, (AV.v (.string a0)), (AV.v (.string a1)), (AV.v (.string a2)), (AV.agg [(AV.v (.int .i64 a3)), (AV.v (.int .i64 a4)), (AV.v (.int .i64 a5)), (AV.v (.int .i64 a6)), (AV.v (.int .i64 a7)), (AV.v (.int .i64 a8)), (AV.v (.int .i64 a9)), (AV.v (.int .i64 a10)), (AV.v (.int .i64 a11)), (AV.v (.int .i64 a12)), (AV.v (.int .i64 a13)), (AV.v (.int .i64 a14)), (AV.v (.int .i64 a15)), (AV.v (.int .i64 a16)), (AV.v (.int .i64 a17)), (AV.v (.int .i64 a18)), (AV.v (.int .i64 a19)), (AV.v (.int .i64 a20)), (AV.v (.int .i64 a21)), (AV.v (.int .i64 a22)), (AV.v (.int .i64 a23)), (AV.v (.int .i64 a24))]), (AV.v (.int .i64 a25)) => some (a0, a1, a2, a3, a4, a5, a6, a7, a8, a9, a10, a11, a12, a13, a14, a15, a16, a17, a18, a19, a20, a21, a22, a23, a24, a25)
    | _, _, _, _, _, _, _ => none
  st := fun x => mkS 83 [(4, (AV.v (.string x.1))), (6, (AV.v (.string x.2.1))), (8, (AV.v (.string x.2.2.1))), (63, (AV.agg [(AV.v (.int .i64 x.2.2.2.1)), (AV.v (.int .i64 x.2.2.2.2.1)), (AV.v (.int .i64 x.2.2.2.2.2.1)), (AV.v (.int .i64 x.2.2.2.2.2.2.1)), (AV.v (.int .i64 x.2.2.2.2.2.2.2.1)), (AV.v (.int .i64 x.2.2.2.2.2.2.2.2.1)), (AV.v (.int .i64 x.2.2.2.2.2.2.2.2.2.1)), (AV.v (.int .i64 x.2.2.2.2.2.2.2.2.2.2.1)), (AV.v (.int .i64 x.2.2.2.2.2.2.2.2.2.2.2.1)), (AV.v (.int .i64 x.2.2.2.2.2.2.2.2.2.2.2.2.1)), (AV.v (.int .i64 x.2.2.2.2.2.2.2.2.2.2.2.2.2.1)), (AV.v (.int .i64 x.2.2.2.2.2.2.2.2.2.2.2.2.2.2.1)), (AV.v (.int .i64 x.2.2.2.2.2.2.2.2.2.2.2.2.2.2.2.1)), (AV.v (.int .i64 x.2.2.2.2.2.2.2.2.2.2.2.2.2.2.2.2.1)), (AV.v (.int .i64 x.2.2.2.2.2.2.2.2.2.2.2.2.2.2.2.2.2.1)), (AV.v (.int .i64 x.2.2.2.2.2.2.2.2.2.2.2.2.2.2.2.2.2.2.1)), (AV.v (.int .i64 x.2.2.2.2.2.2.2.2.2.2.2.2.2.2.2.2.2.2.2.1)), (AV.v (.int .i64 x.2.2.2.2.2.2.2.2.2.2.2.2.2.2.2.2.2.2.2.2.1)), (AV.v (.int .i64 x.2.2.2.2.2.2.2.2.2.2.2.2.2.2.2.2.2.2.2.2.2.1)), (AV.v (.int .i64 x.2.2.2.2.2.2.2.2.2.2.2.2.2.2.2.2.2.2.2.2.2.2.1)), (AV.v (.int .i64 x.2.2.2.2.2.2.2.2.2.2.2.2.2.2.2.2.2.2.2.2.2.2.2.1)), (AV.v (.int .i64 x.2.2.2.2.2.2.2.2.2.2.2.2.2.2.2.2.2.2.2.2.2.2.2.2.1))])), (64, (AV.v (.int .i64 x.2.2.2.2.2.2.2.2.2.2.2.2.2.2.2.2.2.2.2.2.2.2.2.2.2)))] [] (F9_an 11).1.toks 0
  out := fun y => (.exit 0, mkS 83 [(4, (AV.v (.string y.1))), (6, (AV.v (.string y.2.1))), (8, (AV.v (.string y.2.2)))] [] (F9_an 11).2.toks 0)
  sp := fun y α k => k (.exit 0, mkS 83 [(4, (AV.v (.string y.1))), (6, (AV.v (.string y.2.1))), (8, (AV.v (.string y.2.2)))] [] (F9_an 11).2.toks 0)
  spe := fun y α k => rfl
  b := fun x α kn ke => (match (decide (x.2.2.2.2.2.2.2.2.2.2.2.2.2.2.2.2.2.2.2.2.2.2.2.2.2 < 11)) with | true => (if 0 ≤ x.2.2.2.2.2.2.2.2.2.2.2.2.2.2.2.2.2.2.2.2.2.2.2.2.2 ∧ x.2.2.2.2.2.2.2.2.2.2.2.2.2.2.2.2.2.2.2.2.2.2.2.2.2 < 11 then (match [(AV.v (.int .i64 x.2.2.2.1)), (AV.v (.int .i64 x.2.2.2.2.1)), (AV.v (.int .i64 x.2.2.2.2.2.1)), (AV.v (.int .i64 x.2.2.2.2.2.2.1)), (AV.v (.int .i64 x.2.2.2.2.2.2.2.1)), (AV.v (.int .i64 x.2.2.2.2.2.2.2.2.1)), (AV.v (.int .i64 x.2.2.2.2.2.2.2.2.2.1)), (AV.v (.int .i64 x.2.2.2.2.2.2.2.2.2.2.1)), (AV.v (.int .i64 x.2.2.2.2.2.2.2.2.2.2.2.1)), (AV.v (.int .i64 x.2.2.2.2.2.2.2.2.2.2.2.2.1)), (AV.v (.int .i64 x.2.2.2.2.2.2.2.2.2.2.2.2.2.1)), (AV.v (.int .i64 x.2.2.2.2.2.2.2.2.2.2.2.2.2.2.1)), (AV.v (.int .i64 x.2.2.2.2.2.2.2.2.2.2.2.2.2.2.2.1)), (AV.v (.int .i64 x.2.2.2.2.2.2.2.2.2.2.2.2.2.2.2.2.1)), (AV.v (.int .i64 x.2.2.2.2.2.2.2.2.2.2.2.2.2.2.2.2.2.1)), (AV.v (.int .i64 x.2.2.2.2.2.2.2.2.2.2.2.2.2.2.2.2.2.2.1)), (AV.v (.int .i64 x.2.2.2.2.2.2.2.2.2.2.2.2.2.2.2.2.2.2.2.1)), (AV.v (.int .i64 x.2.2.2.2.2.2.2.2.2.2.2.2.2.2.2.2.2.2.2.2.1)), (AV.v (.int .i64 x.2.2.2.2.2.2.2.2.2.2.2.2.2.2.2.2.2.2.2.2.2.1)), (AV.v (.int .i64 x.2.2.2.2.2.2.2.2.2.2.2.2.2.2.2.2.2.2.2.2.2.2.1)), (AV.v (.int .i64 x.2.2.2.2.2.2.2.2.2.2.2.2.2.2.2.2.2.2.2.2.2.2.2.1)), (AV.v (.int .i64 x.2.2.2.2.2.2.2.2.2.2.2.2.2.2.2.2.2.2.2.2.2.2.2.2.1))][(x.2.2.2.2.2.2.2.2.2.2.2.2.2.2.2.2.2.2.2.2.2.2.2.2.2.toNat * 2)]? with | some x4 => (match x4 with | .v (.int q6 n5) => (if q6 = .i64 then (match [(AV.v (.int .i64 x.2.2.2.1)), (AV.v (.int .i64 x.2.2.2.2.1)), (AV.v (.int .i64 x.2.2.2.2.2.1)), (AV.v (.int .i64 x.2.2.2.2.2.2.1)), (AV.v (.int .i64 x.2.2.2.2.2.2.2.1)), (AV.v (.int .i64 x.2.2.2.2.2.2.2.2.1)), (AV.v (.int .i64 x.2.2.2.2.2.2.2.2.2.1)), (AV.v (.int .i64 x.2.2.2.2.2.2.2.2.2.2.1)), (AV.v (.int .i64 x.2.2.2.2.2.2.2.2.2.2.2.1)), (AV.v (.int .i64 x.2.2.2.2.2.2.2.2.2.2.2.2.1)), (AV.v (.int .i64 x.2.2.2.2.2.2.2.2.2.2.2.2.2.1)), (AV.v (.int .i64 x.2.2.2.2.2.2.2.2.2.2.2.2.2.2.1)), (AV.v (.int .i64 x.2.2.2.2.2.2.2.2.2.2.2.2.2.2.2.1)), (AV.v (.int .i64 x.2.2.2.2.2.2.2.2.2.2.2.2.2.2.2.2.1)), (AV.v (.int .i64 x.2.2.2.2.2.2.2.2.2.2.2.2.2.2.2.2.2.1)), (AV.v (.int .i64 x.2.2.2.2.2.2.2.2.2.2.2.2.2.2.2.2.2.2.1)), (AV.v (.int .i64 x.2.2.2.2.2.2.2.2.2.2.2.2.2.2.2.2.2.2.2.1)), (AV.v (.int .i64 x.2.2.2.2.2.2.2.2.2.2.2.2.2.2.2.2.2.2.2.2.1)), (AV.v (.int .i64 x.2.2.2.2.2.2.2.2.2.2.2.2.2.2.2.2.2.2.2.2.2.1)), (AV.v (.int .i64 x.2.2.2.2.2.2.2.2.2.2.2.2.2.2.2.2.2.2.2.2.2.2.1)), (AV.v (.int .i64 x.2.2.2.2.2.2.2.2.2.2.2.2.2.2.2.2.2.2.2.2.2.2.2.1)), (AV.v (.int .i64 x.2.2.2.2.2.2.2.2.2.2.2.2.2.2.2.2.2.2.2.2.2.2.2.2.1))][(x.2.2.2.2.2.2.2.2.2.2.2.2.2.2.2.2.2.2.2.2.2.2.2.2.2.toNat * 2) + 1]? with | some x7 => (match x7 with | .v (.int q9 n8) => (if q9 = .i64 then (match F28_d N (x.2.2.1, n5, n8) with | some y10 => (kn (x.1, x.2.1, y10.1, x.2.2.2.1, x.2.2.2.2.1, x.2.2.2.2.2.1, x.2.2.2.2.2.2.1, x.2.2.2.2.2.2.2.1, x.2.2.2.2.2.2.2.2.1, x.2.2.2.2.2.2.2.2.2.1, x.2.2.2.2.2.2.2.2.2.2.1, x.2.2.2.2.2.2.2.2.2.2.2.1, x.2.2.2.2.2.2.2.2.2.2.2.2.1, x.2.2.2.2.2.2.2.2.2.2.2.2.2.1, x.2.2.2.2.2.2.2.2.2.2.2.2.2.2.1, x.2.2.2.2.2.2.2.2.2.2.2.2.2.2.2.1, x.2.2.2.2.2.2.2.2.2.2.2.2.2.2.2.2.1, x.2.2.2.2.2.2.2.2.2.2.2.2.2.2.2.2.2.1, x.2.2.2.2.2.2.2.2.2.2.2.2.2.2.2.2.2.2.1, x.2.2.2.2.2.2.2.2.2.2.2.2.2.2.2.2.2.2.2.1, x.2.2.2.2.2.2.2.2.2.2.2.2.2.2.2.2.2.2.2.2.1, x.2.2.2.2.2.2.2.2.2.2.2.2.2.2.2.2.2.2.2.2.2.1, x.2.2.2.2.2.2.2.2.2.2.2.2.2.2.2.2.2.2.2.2.2.2.1, x.2.2.2.2.2.2.2.2.2.2.2.2.2.2.2.2.2.2.2.2.2.2.2.1, x.2.2.2.2.2.2.2.2.2.2.2.2.2.2.2.2.2.2.2.2.2.2.2.2.1, (i64 (x.2.2.2.2.2.2.2.2.2.2.2.2.2.2.2.2.2.2.2.2.2.2.2.2.2 + 1)))) | none => none) else none) | _ => none) | none => none) else none) | _ => none) | none => none) else none) | false => (ke (x.1, x.2.1, x.2.2.1)))
noncomputable abbrev F9_d11 (N : Nat) (x : ByteArray × ByteArray × ByteArray × Int × Int × Int × Int × Int × Int × Int × Int × Int × Int × Int × Int × Int × Int × Int × Int × Int × Int × Int × Int × Int × Int × Int) : Option ((ByteArray × ByteArray × ByteArray)) := (F9_l11 N).L N x
noncomputable def F9_s (N : Nat) : FSpec where
  X := ByteArray × ByteArray × ByteArray × ByteArray × Int × Int × Int × Int × Int × Int × Int × (List (List AV))
  Y := ByteArray × Int
  ash := [[none, none, none, none, none, none, none, none, none, none, none, some 1]]
  bsh := []
  S := ⟨[[none], [none]], [], [], [], []⟩
  bm := false
  pat := fun a b => match a, b with
    | [(AV.agg [(AV.v (.string a0)), (AV.v (.string a1)), (AV.v (.string a2)), (AV.v (.string a3)), (AV.v (.int .i64 a4)), (AV.v (.int .i64 a5)), (AV.v (.int .i64 a6)), (AV.v (.int .i64 a7)), (AV.v (.int .i64 a8)), (AV.v (.int .i64 a9)), (AV.v (.int .i64 a10)), (AV.list 1 a11 none)])], [] => some (a0, a1, a2, a3, a4, a5, a6, a7, a8, a9, a10, a11)
    | _, _ => none
  args := fun x => [(AV.agg [(AV.v (.string x.1)), (AV.v (.string x.2.1)), (AV.v (.string x.2.2.1)), (AV.v (.string x.2.2.2.1)), (AV.v (.int .i64 x.2.2.2.2.1)), (AV.v (.int .i64 x.2.2.2.2.2.1)), (AV.v (.int .i64 x.2.2.2.2.2.2.1)), (AV.v (.int .i64 x.2.2.2.2.2.2.2.1)), (AV.v (.int .i64 x.2.2.2.2.2.2.2.2.1)), (AV.v (.int .i64 x.2.2.2.2.2.2.2.2.2.1)), (AV.v (.int .i64 x.2.2.2.2.2.2.2.2.2.2.1)), (AV.list 1 x.2.2.2.2.2.2.2.2.2.2.2 none)])]
  bs := fun x => []
  ret := fun y => ⟨(AV.tup [(AV.v (.string y.1)), (AV.v (.int .i64 y.2))]), [], none, [], [], []⟩
  t := fun x α k => (match F17_d N (x.1, x.2.1, x.2.2.1, x.2.2.2.1, x.2.2.2.2.1, x.2.2.2.2.2.1, x.2.2.2.2.2.2.1, x.2.2.2.2.2.2.2.1, x.2.2.2.2.2.2.2.2.1, x.2.2.2.2.2.2.2.2.2.1, x.2.2.2.2.2.2.2.2.2.2.1, x.2.2.2.2.2.2.2.2.2.2.2) with | some y1 => (match (!y1) with | true => (k ((⟨#[]⟩ : ByteArray), 1)) | false => (match F26_d N (x.1, x.2.1, x.2.2.1, x.2.2.2.1) with | some y2 => (match F27_d N x.2.2.2.2.2.2.2.2.2.2.2 with | some y3 => (match F9_d11 N (y2.1, y3.1, (⟨#[83, 78]⟩ : ByteArray), 1, 1, x.2.2.2.2.2.2.2.2.2.1, 1, x.2.2.2.2.1, 2, x.2.2.2.2.2.1, 4, x.2.2.2.2.2.2.1, 7, x.2.2.2.2.2.2.2.1, 2, x.2.2.2.2.2.2.2.2.1, 2, x.2.2.2.2.2.2.2.2.2.2.1, 6, (x.2.2.2.2.2.2.2.2.2.2.2.length : Int), 2, (y2.1.size : Int), 1, (i64 ((y3.1.size : Int).tdiv 64)), 1, 0) with | some y11 => (if y11.2.2.size + y11.1.size ≤ 9223372036854775807 then (if (y11.2.2 ++ y11.1).size + y11.2.1.size ≤ 9223372036854775807 then (match F19_d N ((y11.2.2 ++ y11.1) ++ y11.2.1) with | some y12 => (k (y12, 0)) | none => none) else none) else none) | none => none) | none => none) | none => none)) | none => none)
noncomputable abbrev F9_d (N : Nat) (x : ByteArray × ByteArray × ByteArray × ByteArray × Int × Int × Int × Int × Int × Int × Int × (List (List AV))) : Option (ByteArray × Int) := (F9_s N).d x
theorem F9_par11 (N : Nat) : Par (F9_l11 N).b := by
  intro x α β kn ke kn' ke' r r' h h1 h2
  revert h
  dsimp only [F9_l11]
  (repeat' (first | (with_reducible refine par_ite ?_ ?_) | (with_reducible refine par_both ?_ ?_) | split)) <;> intro h <;> first | exact h1 _ h | exact h2 _ h | (cases h; done)
theorem F9_body11 (N : Nat) (x : (F9_l11 N).X) (α : Type) (kn : AS → Option α) (ke : Out → Option α) : around (tabOf Tryz.prog) (F9_g N) F9_an (lam N [(11, F9_l11 N)]) 11 (bodyOf (nthLoop 11 (Tryz.f9.body.getD .skip))) ((F9_l11 N).st x) kn ke = (F9_l11 N).b x α (fun x' => kn ((F9_l11 N).st x')) (fun y => (F9_l11 N).sp y α ke) := by kernel_rfl
theorem F9_pat11 (N : Nat) (s : AS) (x : (F9_l11 N).X) (hc : s = canon (F9_an 11).1 s) (h : (F9_l11 N).p s = some x) : s = (F9_l11 N).st x := by
  dsimp only [F9_l11] at h
  split at h
  · cases h
    exact canon_mk hc ‹_› ‹_› rfl rfl rfl ⟨‹_›, ‹_›, ‹_›, ‹_›, ‹_›, trivial⟩ trivial
  · cases h
theorem F9_loop11 (N : Nat) : ∀ s o, s = canon (F9_an 11).1 s → (lam N [(11, F9_l11 N)]).v 11 s = some o → LoopSem Tryz.prog (nthLoop 11 (Tryz.f9.body.getD .skip)) s o :=
  loop_ok (tabOf_ok Tryz.prog) (gam_ok _) mixed F9_an N [(11, F9_l11 N)] 11 (bodyOf (nthLoop 11 (Tryz.f9.body.getD .skip))) (nthLoop 11 (Tryz.f9.body.getD .skip)) (by kernel_rfl) (by
    have e : actOf F9_an (bodyOf (nthLoop 11 (Tryz.f9.body.getD .skip))) (11 + 1) = [] := by kernel_rfl
    rw [e]
    intro p hp
    cases hp) (F9_l11 N) rfl (fun s x hc h => F9_pat11 N s x hc h) (fun x => rfl) (fun x α kn ke => (F9_body11 N x α kn ke).trans (congrArg ((F9_l11 N).b x α _) (funext fun y => (F9_l11 N).spe y α ke))) (F9_par11 N)
theorem F9_parF (N : Nat) : ParF (F9_s N).t := by
  intro x α β k k' r r' h h1
  revert h
  dsimp only [F9_s]
  (repeat' (first | (with_reducible refine par_ite ?_ ?_) | (with_reducible refine par_both ?_ ?_) | split)) <;> intro h <;> first | exact h1 _ h | (cases h; done)
theorem F9_text (N : Nat) (x : (F9_s N).X) : acall (tabOf Tryz.prog) (F9_g N) F9_an (lam N [(11, F9_l11 N)]) Tryz.f9 (F9_s N).S ((F9_s N).args x) ((F9_s N).bs x) = (F9_s N).t x Ret (fun y => some ((F9_s N).ret y)) := by kernel_rfl
theorem F9_pat (N : Nat) (a : List AV) (b : List (List AV)) (x : (F9_s N).X) (h : (F9_s N).pat a b = some x) : a = (F9_s N).args x ∧ b = (F9_s N).bs x := by
  dsimp only [F9_s] at h
  split at h
  · cases h; exact ⟨rfl, rfl⟩
  · cases h
noncomputable def F9_e (N : Nat) : Ent Tryz.prog := entOf (tabOf_ok Tryz.prog) (gam_ok _) mixed 9 Tryz.f9 Tryz.func9 rfl F9_an (lam N [(11, F9_l11 N)]) (by
    have e : actOf F9_an (Tryz.f9.body.getD .skip) 0 = [(11, nthLoop 11 (Tryz.f9.body.getD .skip))] := by kernel_rfl
    rw [e]
    intro p hp
    rcases List.mem_cons.1 hp with rfl | hp
    · exact F9_loop11 N
    cases hp) (F9_s N) (fun _ => ⟨rfl, rfl⟩) (F9_text N) (F9_pat N) (F9_parF N)
/-! ### seismonet/packet.Split (function 11) -/
def F11_an : Nat → Keep × Keep := anL [(3, ⟨[0], [(5, 1)], [], [], [], [], [], [], false⟩, ⟨[3, 4], [], [], [(2, 1)], [], [], [], [], false⟩)]
noncomputable def F11_g (N : Nat) : GamK := gam (P := Tryz.prog) [F22_e N]
noncomputable def F11_l3 (N : Nat) : LSpec where
  X := (List (List AV)) × ByteArray
  Y := ((List (List AV)) × ByteArray × Int)
  p := fun s => match s.env.length, s.nin, s.at 5, s.at 0 with
    | 37, 0, (AV.list 1 a0 (some 1280000320)), (AV.v (.string a1)) => some (a0, a1)
    | _, _, _, _ => none
  st := fun x => mkS 37 [(5, (AV.list 1 x.1 (some 1280000320))), (0, (AV.v (.string x.2)))] [] (F11_an 3).1.toks 0
  out := fun y => (.ret, mkS 37 [(2, (AV.list 1 y.1 none)), (3, (AV.v (.string y.2.1))), (4, (AV.v (.int .i64 y.2.2)))] [] (F11_an 3).2.toks 0)
  sp := fun y α k => k (.ret, mkS 37 [(2, (AV.list 1 y.1 none)), (3, (AV.v (.string y.2.1))), (4, (AV.v (.int .i64 y.2.2)))] [] (F11_an 3).2.toks 0)
  spe := fun y α k => rfl
  b := fun x α kn ke => (match F22_d N x.2 with | some y1 => (match (y1.2 == 3) with | true => (ke (x.1, x.2, y1.2)) | false => (match (y1.2 != 0) with | true => (ke (x.1, x.2, 0)) | false => (match (decide ((x.2.size : Int) < y1.1)) with | true => (ke (x.1, x.2, 0)) | false => (if 0 ≤ y1.1 ∧ y1.1 ≤ x.2.size then (if (x.1.length + [[(AV.v (.string (x.2.extract 0 y1.1.toNat)))]].length) * 16 ≤ maxBytes then (if 0 ≤ y1.1 ∧ y1.1 ≤ x.2.size then (kn ((x.1 ++ [[(AV.v (.string (x.2.extract 0 y1.1.toNat)))]]), (x.2.extract y1.1.toNat x.2.size))) else none) else none) else none)))) | none => none)
noncomputable abbrev F11_d3 (N : Nat) (x : (List (List AV)) × ByteArray) : Option (((List (List AV)) × ByteArray × Int)) := (F11_l3 N).L N x
noncomputable def F11_s (N : Nat) : FSpec where
  X := ByteArray
  Y := (List (List AV)) × ByteArray × Int
  ash := [[none]]
  bsh := []
  S := ⟨[[some 1], [none], [none]], [], [], [], []⟩
  bm := false
  pat := fun a b => match a, b with
    | [(AV.v (.string a0))], [] => some a0
    | _, _ => none
  args := fun x => [(AV.v (.string x))]
  bs := fun x => []
  ret := fun y => ⟨(AV.tup [(AV.list 1 y.1 none), (AV.v (.string y.2.1)), (AV.v (.int .i64 y.2.2))]), [], none, [], [], []⟩
  t := fun x α k => (match F11_d3 N (([] : List (List AV)), x) with | some y2 => (k (y2.1, y2.2.1, y2.2.2)) | none => none)
noncomputable abbrev F11_d (N : Nat) (x : ByteArray) : Option ((List (List AV)) × ByteArray × Int) := (F11_s N).d x
theorem F11_par3 (N : Nat) : Par (F11_l3 N).b := by
  intro x α β kn ke kn' ke' r r' h h1 h2
  revert h
  dsimp only [F11_l3]
  (repeat' (first | (with_reducible refine par_ite ?_ ?_) | (with_reducible refine par_both ?_ ?_) | split)) <;> intro h <;> first | exact h1 _ h | exact h2 _ h | (cases h; done)
theorem F11_body3 (N : Nat) (x : (F11_l3 N).X) (α : Type) (kn : AS → Option α) (ke : Out → Option α) : around (tabOf Tryz.prog) (F11_g N) F11_an (lam N [(3, F11_l3 N)]) 3 (bodyOf (nthLoop 3 (Tryz.f11.body.getD .skip))) ((F11_l3 N).st x) kn ke = (F11_l3 N).b x α (fun x' => kn ((F11_l3 N).st x')) (fun y => (F11_l3 N).sp y α ke) := by kernel_rfl
theorem F11_pat3 (N : Nat) (s : AS) (x : (F11_l3 N).X) (hc : s = canon (F11_an 3).1 s) (h : (F11_l3 N).p s = some x) : s = (F11_l3 N).st x := by
  dsimp only [F11_l3] at h
  split at h
  · cases h
    exact canon_mk hc ‹_› ‹_› rfl rfl rfl ⟨‹_›, ‹_›, trivial⟩ trivial
  · cases h
theorem F11_loop3 (N : Nat) : ∀ s o, s = canon (F11_an 3).1 s → (lam N [(3, F11_l3 N)]).v 3 s = some o → LoopSem Tryz.prog (nthLoop 3 (Tryz.f11.body.getD .skip)) s o :=
  loop_ok (tabOf_ok Tryz.prog) (gam_ok _) mixed F11_an N [(3, F11_l3 N)] 3 (bodyOf (nthLoop 3 (Tryz.f11.body.getD .skip))) (nthLoop 3 (Tryz.f11.body.getD .skip)) (by kernel_rfl) (by
    have e : actOf F11_an (bodyOf (nthLoop 3 (Tryz.f11.body.getD .skip))) (3 + 1) = [] := by kernel_rfl
    rw [e]
    intro p hp
    cases hp) (F11_l3 N) rfl (fun s x hc h => F11_pat3 N s x hc h) (fun x => rfl) (fun x α kn ke => (F11_body3 N x α kn ke).trans (congrArg ((F11_l3 N).b x α _) (funext fun y => (F11_l3 N).spe y α ke))) (F11_par3 N)
theorem F11_parF (N : Nat) : ParF (F11_s N).t := by
  intro x α β k k' r r' h h1
  revert h
  dsimp only [F11_s]
  (repeat' (first | (with_reducible refine par_ite ?_ ?_) | (with_reducible refine par_both ?_ ?_) | split)) <;> intro h <;> first | exact h1 _ h | (cases h; done)
theorem F11_text (N : Nat) (x : (F11_s N).X) : acall (tabOf Tryz.prog) (F11_g N) F11_an (lam N [(3, F11_l3 N)]) Tryz.f11 (F11_s N).S ((F11_s N).args x) ((F11_s N).bs x) = (F11_s N).t x Ret (fun y => some ((F11_s N).ret y)) := by kernel_rfl
theorem F11_pat (N : Nat) (a : List AV) (b : List (List AV)) (x : (F11_s N).X) (h : (F11_s N).pat a b = some x) : a = (F11_s N).args x ∧ b = (F11_s N).bs x := by
  dsimp only [F11_s] at h
  split at h
  · cases h; exact ⟨rfl, rfl⟩
  · cases h
noncomputable def F11_e (N : Nat) : Ent Tryz.prog := entOf (tabOf_ok Tryz.prog) (gam_ok _) mixed 11 Tryz.f11 Tryz.func11 rfl F11_an (lam N [(3, F11_l3 N)]) (by
    have e : actOf F11_an (Tryz.f11.body.getD .skip) 0 = [(3, nthLoop 3 (Tryz.f11.body.getD .skip))] := by kernel_rfl
    rw [e]
    intro p hp
    rcases List.mem_cons.1 hp with rfl | hp
    · exact F11_loop3 N
    cases hp) (F11_s N) (fun _ => ⟨rfl, rfl⟩) (F11_text N) (F11_pat N) (F11_parF N)
end Go.Proofs.YtdmedeaknnldcaaGreatDoor
