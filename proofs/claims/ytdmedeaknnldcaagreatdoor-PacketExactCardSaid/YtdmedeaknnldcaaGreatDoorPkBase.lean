/- Functions without memory. (written by sx.py) -/
import Derived.Test.YtdmedeaknnldcaaGreatDoorSymY
namespace Go.Proofs.YtdmedeaknnldcaaGreatDoor
open Go.RowKit
set_option linter.unusedVariables false
set_option linter.unusedSimpArgs false
set_option linter.unnecessarySimpa false
set_option maxRecDepth 4000
/-! ### seismonet/source.plain (function 99) -/
def B99_an : Nat → Keep × Keep := anL []
noncomputable def B99_g (N : Nat) : GamK := gam (P := Tryz.prog) []
noncomputable def B99_s (N : Nat) : FSpec where
  X := Int
  Y := Bool
  ash := [[none]]
  bsh := []
  S := ⟨[[none]], [], [], [], []⟩
  bm := false
  pat := fun a b => match a, b with
    | [(AV.v (.int .u8 a0))], [] => some a0
    | _, _ => none
  args := fun x => [(AV.v (.int .u8 x))]
  bs := fun x => []
  ret := fun y => ⟨(AV.v (.bool y)), [], none, [], [], []⟩
  t := fun x α k => (match (decide (x ≥ 65)) with | true => (match (decide (x ≤ 90)) with | true => (k true) | false => (match (decide (x ≥ 48)) with | true => (k (decide (x ≤ 57))) | false => (k false))) | false => (match (decide (x ≥ 48)) with | true => (k (decide (x ≤ 57))) | false => (k false)))
noncomputable abbrev B99_d (N : Nat) (x : Int) : Option (Bool) := (B99_s N).d x
theorem B99_parF (N : Nat) : ParF (B99_s N).t := by
  intro x α β k k' r r' h h1
  revert h
  dsimp only [B99_s]
  (repeat' (first | (with_reducible refine par_ite ?_ ?_) | (with_reducible refine par_both ?_ ?_) | split)) <;> intro h <;> first | exact h1 _ h | (cases h; done)
theorem B99_text (N : Nat) (x : (B99_s N).X) : acall (tabOf Tryz.prog) (B99_g N) B99_an (lam N []) Tryz.f99 (B99_s N).S ((B99_s N).args x) ((B99_s N).bs x) = (B99_s N).t x Ret (fun y => some ((B99_s N).ret y)) := by kernel_rfl
theorem B99_pat (N : Nat) (a : List AV) (b : List (List AV)) (x : (B99_s N).X) (h : (B99_s N).pat a b = some x) : a = (B99_s N).args x ∧ b = (B99_s N).bs x := by
  dsimp only [B99_s] at h
  split at h
  · cases h; exact ⟨rfl, rfl⟩
  · cases h
noncomputable def B99_e (N : Nat) : Ent Tryz.prog := entOf (tabOf_ok Tryz.prog) (gam_ok _) mixed 99 Tryz.f99 Tryz.func99 rfl B99_an (lam N []) (by
    have e : actOf B99_an (Tryz.f99.body.getD .skip) 0 = [] := by kernel_rfl
    rw [e]
    intro p hp
    cases hp) (B99_s N) (fun _ => ⟨rfl, rfl⟩) (B99_text N) (B99_pat N) (B99_parF N)
/-! ### seismonet/source.code (function 66) -/
def B66_an : Nat → Keep × Keep := anL [(4, ⟨[0, 1, 2, 9, 10], [], [], [], [], [], [], [], false⟩, ⟨[0, 1, 2, 6], [], [], [], [], [], [], [], false⟩)]
noncomputable def B66_g (N : Nat) : GamK := gam (P := Tryz.prog) [B99_e N]
noncomputable def B66_l4 (N : Nat) : LSpec where
  X := ByteArray × Int × Int × Int × Int
  Y := (ByteArray × Int × Int × Bool) ⊕ (ByteArray × Int × Int)
  p := fun s => match s.env.length, s.nin, s.at 0, s.at 1, s.at 2, s.at 9, s.at 10 with
    | 29, 0, (AV.v (.string a0)), (AV.v (.int .i64 a1)), (AV.v (.int .i64 a2)), (AV.v (.int .i64 a3)), (AV.v (.int .i64 a4)) => some (a0, a1, a2, a3, a4)
    | _, _, _, _, _, _, _ => none
  st := fun x => mkS 29 [(0, (AV.v (.string x.1))), (1, (AV.v (.int .i64 x.2.1))), (2, (AV.v (.int .i64 x.2.2.1))), (9, (AV.v (.int .i64 x.2.2.2.1))), (10, (AV.v (.int .i64 x.2.2.2.2)))] [] (B66_an 4).1.toks 0
  out := fun y => match y with
    | .inl y => (.ret, mkS 29 [(0, (AV.v (.string y.1))), (1, (AV.v (.int .i64 y.2.1))), (2, (AV.v (.int .i64 y.2.2.1))), (6, (AV.v (.bool y.2.2.2)))] [] (B66_an 4).2.toks 0)
    | .inr y => (.exit 0, mkS 29 [(0, (AV.v (.string y.1))), (1, (AV.v (.int .i64 y.2.1))), (2, (AV.v (.int .i64 y.2.2)))] [] (B66_an 4).2.toks 0)
  sp := fun y α k => match y with
    | .inl y => k (.ret, mkS 29 [(0, (AV.v (.string y.1))), (1, (AV.v (.int .i64 y.2.1))), (2, (AV.v (.int .i64 y.2.2.1))), (6, (AV.v (.bool y.2.2.2)))] [] (B66_an 4).2.toks 0)
    | .inr y => k (.exit 0, mkS 29 [(0, (AV.v (.string y.1))), (1, (AV.v (.int .i64 y.2.1))), (2, (AV.v (.int .i64 y.2.2)))] [] (B66_an 4).2.toks 0)
  spe := fun y α k => by rcases y with _ | _ <;> rfl
  b := fun x α kn ke => (match (decide (x.2.2.2.2 < x.2.2.2.1)) with | true => (if 0 ≤ x.2.2.2.2 then (match x.1[x.2.2.2.2.toNat]? with | some c1 => (match B99_d N (c1.toNat : Int) with | some y2 => (match (!y2) with | true => (ke (.inl (x.1, x.2.1, x.2.2.1, false))) | false => (kn (x.1, x.2.1, x.2.2.1, x.2.2.2.1, (i64 (x.2.2.2.2 + 1))))) | none => none) | none => none) else none) | false => (ke (.inr (x.1, x.2.1, x.2.2.1))))
noncomputable abbrev B66_d4 (N : Nat) (x : ByteArray × Int × Int × Int × Int) : Option ((ByteArray × Int × Int × Bool) ⊕ (ByteArray × Int × Int)) := (B66_l4 N).L N x
noncomputable def B66_s (N : Nat) : FSpec where
  X := ByteArray × Int × Int
  Y := Bool
  ash := [[none], [none], [none]]
  bsh := []
  S := ⟨[[none]], [], [], [], []⟩
  bm := false
  pat := fun a b => match a, b with
    | [(AV.v (.string a0)), (AV.v (.int .i64 a1)), (AV.v (.int .i64 a2))], [] => some (a0, a1, a2)
    | _, _ => none
  args := fun x => [(AV.v (.string x.1)), (AV.v (.int .i64 x.2.1)), (AV.v (.int .i64 x.2.2))]
  bs := fun x => []
  ret := fun y => ⟨(AV.v (.bool y)), [], none, [], [], []⟩
  t := fun x α k => (match B66_d4 N (x.1, x.2.1, x.2.2, (x.1.size : Int), 0) with | some y3 => (match y3 with | .inl z4 => (k z4.2.2.2) | .inr z5 => (match (decide ((z5.1.size : Int) ≥ z5.2.1)) with | true => (k (decide ((z5.1.size : Int) ≤ z5.2.2))) | false => (k false))) | none => none)
noncomputable abbrev B66_d (N : Nat) (x : ByteArray × Int × Int) : Option (Bool) := (B66_s N).d x
theorem B66_par4 (N : Nat) : Par (B66_l4 N).b := by
  intro x α β kn ke kn' ke' r r' h h1 h2
  revert h
  dsimp only [B66_l4]
  (repeat' (first | (with_reducible refine par_ite ?_ ?_) | (with_reducible refine par_both ?_ ?_) | split)) <;> intro h <;> first | exact h1 _ h | exact h2 _ h | (cases h; done)
theorem B66_body4 (N : Nat) (x : (B66_l4 N).X) (α : Type) (kn : AS → Option α) (ke : Out → Option α) : around (tabOf Tryz.prog) (B66_g N) B66_an (lam N [(4, B66_l4 N)]) 4 (bodyOf (nthLoop 4 (Tryz.f66.body.getD .skip))) ((B66_l4 N).st x) kn ke = (B66_l4 N).b x α (fun x' => kn ((B66_l4 N).st x')) (fun y => (B66_l4 N).sp y α ke) := by kernel_rfl
theorem B66_pat4 (N : Nat) (s : AS) (x : (B66_l4 N).X) (hc : s = canon (B66_an 4).1 s) (h : (B66_l4 N).p s = some x) : s = (B66_l4 N).st x := by
  dsimp only [B66_l4] at h
  split at h
  · cases h
    exact canon_mk hc ‹_› ‹_› rfl rfl rfl ⟨‹_›, ‹_›, ‹_›, ‹_›, ‹_›, trivial⟩ trivial
  · cases h
theorem B66_loop4 (N : Nat) : ∀ s o, s = canon (B66_an 4).1 s → (lam N [(4, B66_l4 N)]).v 4 s = some o → LoopSem Tryz.prog (nthLoop 4 (Tryz.f66.body.getD .skip)) s o :=
  loop_ok (tabOf_ok Tryz.prog) (gam_ok _) mixed B66_an N [(4, B66_l4 N)] 4 (bodyOf (nthLoop 4 (Tryz.f66.body.getD .skip))) (nthLoop 4 (Tryz.f66.body.getD .skip)) (by kernel_rfl) (by
    have e : actOf B66_an (bodyOf (nthLoop 4 (Tryz.f66.body.getD .skip))) (4 + 1) = [] := by kernel_rfl
    rw [e]
    intro p hp
    cases hp) (B66_l4 N) rfl (fun s x hc h => B66_pat4 N s x hc h) (fun x => rfl) (fun x α kn ke => (B66_body4 N x α kn ke).trans (congrArg ((B66_l4 N).b x α _) (funext fun y => (B66_l4 N).spe y α ke))) (B66_par4 N)
theorem B66_parF (N : Nat) : ParF (B66_s N).t := by
  intro x α β k k' r r' h h1
  revert h
  dsimp only [B66_s]
  (repeat' (first | (with_reducible refine par_ite ?_ ?_) | (with_reducible refine par_both ?_ ?_) | split)) <;> intro h <;> first | exact h1 _ h | (cases h; done)
theorem B66_text (N : Nat) (x : (B66_s N).X) : acall (tabOf Tryz.prog) (B66_g N) B66_an (lam N [(4, B66_l4 N)]) Tryz.f66 (B66_s N).S ((B66_s N).args x) ((B66_s N).bs x) = (B66_s N).t x Ret (fun y => some ((B66_s N).ret y)) := by kernel_rfl
theorem B66_pat (N : Nat) (a : List AV) (b : List (List AV)) (x : (B66_s N).X) (h : (B66_s N).pat a b = some x) : a = (B66_s N).args x ∧ b = (B66_s N).bs x := by
  dsimp only [B66_s] at h
  split at h
  · cases h; exact ⟨rfl, rfl⟩
  · cases h
noncomputable def B66_e (N : Nat) : Ent Tryz.prog := entOf (tabOf_ok Tryz.prog) (gam_ok _) mixed 66 Tryz.f66 Tryz.func66 rfl B66_an (lam N [(4, B66_l4 N)]) (by
    have e : actOf B66_an (Tryz.f66.body.getD .skip) 0 = [(4, nthLoop 4 (Tryz.f66.body.getD .skip))] := by kernel_rfl
    rw [e]
    intro p hp
    rcases List.mem_cons.1 hp with rfl | hp
    · exact B66_loop4 N
    cases hp) (B66_s N) (fun _ => ⟨rfl, rfl⟩) (B66_text N) (B66_pat N) (B66_parF N)
/-! ### seismonet/seismonetref03.code (function 69) -/
def B69_an : Nat → Keep × Keep := anL [(4, ⟨[0, 1, 2, 7], [], [], [], [], [], [], [], false⟩, ⟨[0, 1, 2, 6], [], [], [], [], [], [], [], false⟩)]
noncomputable def B69_g (N : Nat) : GamK := gam (P := Tryz.prog) []
noncomputable def B69_l4 (N : Nat) : LSpec where
  X := ByteArray × Int × Int × Int
  Y := (ByteArray × Int × Int × Bool) ⊕ (ByteArray × Int × Int)
  p := fun s => match s.env.length, s.nin, s.at 0, s.at 1, s.at 2, s.at 7 with
    | 47, 0, (AV.v (.string a0)), (AV.v (.int .i64 a1)), (AV.v (.int .i64 a2)), (AV.v (.int .i64 a3)) => some (a0, a1, a2, a3)
    | _, _, _, _, _, _ => none
  st := fun x => mkS 47 [(0, (AV.v (.string x.1))), (1, (AV.v (.int .i64 x.2.1))), (2, (AV.v (.int .i64 x.2.2.1))), (7, (AV.v (.int .i64 x.2.2.2)))] [] (B69_an 4).1.toks 0
  out := fun y => match y with
    | .inl y => (.ret, mkS 47 [(0, (AV.v (.string y.1))), (1, (AV.v (.int .i64 y.2.1))), (2, (AV.v (.int .i64 y.2.2.1))), (6, (AV.v (.bool y.2.2.2)))] [] (B69_an 4).2.toks 0)
    | .inr y => (.exit 0, mkS 47 [(0, (AV.v (.string y.1))), (1, (AV.v (.int .i64 y.2.1))), (2, (AV.v (.int .i64 y.2.2)))] [] (B69_an 4).2.toks 0)
  sp := fun y α k => match y with
    | .inl y => k (.ret, mkS 47 [(0, (AV.v (.string y.1))), (1, (AV.v (.int .i64 y.2.1))), (2, (AV.v (.int .i64 y.2.2.1))), (6, (AV.v (.bool y.2.2.2)))] [] (B69_an 4).2.toks 0)
    | .inr y => k (.exit 0, mkS 47 [(0, (AV.v (.string y.1))), (1, (AV.v (.int .i64 y.2.1))), (2, (AV.v (.int .i64 y.2.2)))] [] (B69_an 4).2.toks 0)
  spe := fun y α k => by rcases y with _ | _ <;> rfl
  b := fun x α kn ke => (match (decide (x.2.2.2 < (x.1.size : Int))) with | true => (if 0 ≤ x.2.2.2 then (match x.1[x.2.2.2.toNat]? with | some c1 => (match (decide ((c1.toNat : Int) ≥ 65)) with | true => (if 0 ≤ x.2.2.2 then (match x.1[x.2.2.2.toNat]? with | some c2 => (match (decide ((c2.toNat : Int) ≤ 90)) with | true => (kn (x.1, x.2.1, x.2.2.1, (i64 (x.2.2.2 + 1)))) | false => (if 0 ≤ x.2.2.2 then (match x.1[x.2.2.2.toNat]? with | some c3 => (match (decide ((c3.toNat : Int) ≥ 48)) with | true => (if 0 ≤ x.2.2.2 then (match x.1[x.2.2.2.toNat]? with | some c4 => (match (!(decide ((c4.toNat : Int) ≤ 57))) with | true => (ke (.inl (x.1, x.2.1, x.2.2.1, false))) | false => (kn (x.1, x.2.1, x.2.2.1, (i64 (x.2.2.2 + 1))))) | none => none) else none) | false => (ke (.inl (x.1, x.2.1, x.2.2.1, false)))) | none => none) else none)) | none => none) else none) | false => (if 0 ≤ x.2.2.2 then (match x.1[x.2.2.2.toNat]? with | some c5 => (match (decide ((c5.toNat : Int) ≥ 48)) with | true => (if 0 ≤ x.2.2.2 then (match x.1[x.2.2.2.toNat]? with | some c6 => (match (!(decide ((c6.toNat : Int) ≤ 57))) with | true => (ke (.inl (x.1, x.2.1, x.2.2.1, false))) | false => (kn (x.1, x.2.1, x.2.2.1, (i64 (x.2.2.2 + 1))))) | none => none) else none) | false => (ke (.inl (x.1, x.2.1, x.2.2.1, false)))) | none => none) else none)) | none => none) else none) | false => (ke (.inr (x.1, x.2.1, x.2.2.1))))
noncomputable abbrev B69_d4 (N : Nat) (x : ByteArray × Int × Int × Int) : Option ((ByteArray × Int × Int × Bool) ⊕ (ByteArray × Int × Int)) := (B69_l4 N).L N x
noncomputable def B69_s (N : Nat) : FSpec where
  X := ByteArray × Int × Int
  Y := Bool
  ash := [[none], [none], [none]]
  bsh := []
  S := ⟨[[none]], [], [], [], []⟩
  bm := false
  pat := fun a b => match a, b with
    | [(AV.v (.string a0)), (AV.v (.int .i64 a1)), (AV.v (.int .i64 a2))], [] => some (a0, a1, a2)
    | _, _ => none
  args := fun x => [(AV.v (.string x.1)), (AV.v (.int .i64 x.2.1)), (AV.v (.int .i64 x.2.2))]
  bs := fun x => []
  ret := fun y => ⟨(AV.v (.bool y)), [], none, [], [], []⟩
  t := fun x α k => (match B69_d4 N (x.1, x.2.1, x.2.2, 0) with | some y7 => (match y7 with | .inl z8 => (k z8.2.2.2) | .inr z9 => (match (decide ((z9.1.size : Int) ≥ z9.2.1)) with | true => (k (decide ((z9.1.size : Int) ≤ z9.2.2))) | false => (k false))) | none => none)
noncomputable abbrev B69_d (N : Nat) (x : ByteArray × Int × Int) : Option (Bool) := (B69_s N).d x
theorem B69_par4 (N : Nat) : Par (B69_l4 N).b := by
  intro x α β kn ke kn' ke' r r' h h1 h2
  revert h
  dsimp only [B69_l4]
  (repeat' (first | (with_reducible refine par_ite ?_ ?_) | (with_reducible refine par_both ?_ ?_) | split)) <;> intro h <;> first | exact h1 _ h | exact h2 _ h | (cases h; done)
theorem B69_body4 (N : Nat) (x : (B69_l4 N).X) (α : Type) (kn : AS → Option α) (ke : Out → Option α) : around (tabOf Tryz.prog) (B69_g N) B69_an (lam N [(4, B69_l4 N)]) 4 (bodyOf (nthLoop 4 (Tryz.f69.body.getD .skip))) ((B69_l4 N).st x) kn ke = (B69_l4 N).b x α (fun x' => kn ((B69_l4 N).st x')) (fun y => (B69_l4 N).sp y α ke) := by kernel_rfl
theorem B69_pat4 (N : Nat) (s : AS) (x : (B69_l4 N).X) (hc : s = canon (B69_an 4).1 s) (h : (B69_l4 N).p s = some x) : s = (B69_l4 N).st x := by
  dsimp only [B69_l4] at h
  split at h
  · cases h
    exact canon_mk hc ‹_› ‹_› rfl rfl rfl ⟨‹_›, ‹_›, ‹_›, ‹_›, trivial⟩ trivial
  · cases h
theorem B69_loop4 (N : Nat) : ∀ s o, s = canon (B69_an 4).1 s → (lam N [(4, B69_l4 N)]).v 4 s = some o → LoopSem Tryz.prog (nthLoop 4 (Tryz.f69.body.getD .skip)) s o :=
  loop_ok (tabOf_ok Tryz.prog) (gam_ok _) mixed B69_an N [(4, B69_l4 N)] 4 (bodyOf (nthLoop 4 (Tryz.f69.body.getD .skip))) (nthLoop 4 (Tryz.f69.body.getD .skip)) (by kernel_rfl) (by
    have e : actOf B69_an (bodyOf (nthLoop 4 (Tryz.f69.body.getD .skip))) (4 + 1) = [] := by kernel_rfl
    rw [e]
    intro p hp
    cases hp) (B69_l4 N) rfl (fun s x hc h => B69_pat4 N s x hc h) (fun x => rfl) (fun x α kn ke => (B69_body4 N x α kn ke).trans (congrArg ((B69_l4 N).b x α _) (funext fun y => (B69_l4 N).spe y α ke))) (B69_par4 N)
theorem B69_parF (N : Nat) : ParF (B69_s N).t := by
  intro x α β k k' r r' h h1
  revert h
  dsimp only [B69_s]
  (repeat' (first | (with_reducible refine par_ite ?_ ?_) | (with_reducible refine par_both ?_ ?_) | split)) <;> intro h <;> first | exact h1 _ h | (cases h; done)
theorem B69_text (N : Nat) (x : (B69_s N).X) : acall (tabOf Tryz.prog) (B69_g N) B69_an (lam N [(4, B69_l4 N)]) Tryz.f69 (B69_s N).S ((B69_s N).args x) ((B69_s N).bs x) = (B69_s N).t x Ret (fun y => some ((B69_s N).ret y)) := by kernel_rfl
theorem B69_pat (N : Nat) (a : List AV) (b : List (List AV)) (x : (B69_s N).X) (h : (B69_s N).pat a b = some x) : a = (B69_s N).args x ∧ b = (B69_s N).bs x := by
  dsimp only [B69_s] at h
  split at h
  · cases h; exact ⟨rfl, rfl⟩
  · cases h
noncomputable def B69_e (N : Nat) : Ent Tryz.prog := entOf (tabOf_ok Tryz.prog) (gam_ok _) mixed 69 Tryz.f69 Tryz.func69 rfl B69_an (lam N [(4, B69_l4 N)]) (by
    have e : actOf B69_an (Tryz.f69.body.getD .skip) 0 = [(4, nthLoop 4 (Tryz.f69.body.getD .skip))] := by kernel_rfl
    rw [e]
    intro p hp
    rcases List.mem_cons.1 hp with rfl | hp
    · exact B69_loop4 N
    cases hp) (B69_s N) (fun _ => ⟨rfl, rfl⟩) (B69_text N) (B69_pat N) (B69_parF N)
end Go.Proofs.YtdmedeaknnldcaaGreatDoor
