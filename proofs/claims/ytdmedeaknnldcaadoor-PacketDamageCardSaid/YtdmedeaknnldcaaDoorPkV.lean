/- Functions without memory. (written by sx.py) -/
import Derived.Test.YtdmedeaknnldcaaDoorPkU
import Derived.Test.YtdmedeaknnldcaaDoorPkFlip
namespace Go.Proofs.YtdmedeaknnldcaaDoor
open Go.RowKit
set_option linter.unusedVariables false
set_option linter.unusedSimpArgs false
set_option linter.unnecessarySimpa false
set_option maxRecDepth 4000
/-! ### seismonet/seismonetlaw07.PacketDamage (function 4) -/
def F4_an : Nat → Keep × Keep := anL []
noncomputable def F4_g (N : Nat) : GamK := gam (P := Tryd.prog) [F6_e N, F7_e N, F8_e N, F9_e N, F10_e N, F14_e N, F11_e N, F15_e N]
noncomputable def F4_s (N : Nat) : FSpec where
  X := (List (List AV)) × Int × Int
  Y := Bool
  ash := [[some 1], [none], [none]]
  bsh := []
  S := ⟨[[none]], [], [], [], []⟩
  bm := false
  pat := fun a b => match a, b with
    | [(AV.list 1 a0 none), (AV.v (.int .u16 a1)), (AV.v (.int .u32 a2))], [] => some (a0, a1, a2)
    | _, _ => none
  args := fun x => [(AV.list 1 x.1 none), (AV.v (.int .u16 x.2.1)), (AV.v (.int .u32 x.2.2))]
  bs := fun x => []
  ret := fun y => ⟨(AV.v (.bool y)), [], none, [], [], []⟩
  t := fun x α k => (match F6_d N x.1 with | some y1 => (match (!y1) with | true => (match F7_d N () with | some y2 => (k y2) | none => none) | false => (match F8_d N x.1 with | some y3 => (match F9_d N (y3.1, y3.2) with | some y4 => (match F10_d N (y4.1, y4.2.1, y4.2.2.1, y4.2.2.2.1, y4.2.2.2.2.1, y4.2.2.2.2.2.1, y4.2.2.2.2.2.2.1, y4.2.2.2.2.2.2.2.1, y4.2.2.2.2.2.2.2.2.1, y4.2.2.2.2.2.2.2.2.2.1, y4.2.2.2.2.2.2.2.2.2.2.1, y4.2.2.2.2.2.2.2.2.2.2.2.1) with | some y5 => (match (y5.2 != 0) with | true => (k false) | false => (match (decide ((y5.1.size : Int) < 100)) with | true => (k false) | false => (if (i64 ((i64 ((i64 (8 * (y5.1.size : Int))) - 248)) - 31)) = 0 then none else (match F14_d N (y5.1, (i64 (248 + ((IntKind.i64.wrap x.2.1).tmod (i64 ((i64 ((i64 (8 * (y5.1.size : Int))) - 248)) - 31))))), 32, (IntKind.i64.wrap x.2.2)) with | some y6 => (match F11_d N y6.1 with | some y7 => (match F15_d N ((i64 ((y5.1.size : Int) - 31)), y4.2.2.2.2.2.2.2.2.2.2.2.2.1, y4.2.2.2.2.2.2.2.2.2.2.2.2.2) with | some y8 => (if 0 ≤ (i64 (31 + y8.1)) ∧ (i64 (31 + y8.1)) ≤ y5.1.size then (match F11_d N (y5.1.extract 0 (i64 (31 + y8.1)).toNat) with | some y9 => (match F15_d N (31, y8.2.1, y8.2.2) with | some y10 => (if 0 ≤ y10.1 ∧ y10.1 ≤ y5.1.size then (match F11_d N (y5.1.extract 0 y10.1.toNat) with | some y11 => (match (y6.2 == 0) with | true => (match ((x.2.2 == 0) == (y7.2.2.2.2.2.2.2.2.2.2.2.2 == 0)) with | true => (match (y7.2.2.2.2.2.2.2.2.2.2.2.2 == 0) with | true => (match (y9.2.2.2.2.2.2.2.2.2.2.2.2 == 4) with | true => (match (y11.2.2.2.2.2.2.2.2.2.2.2.2 == 4) with | true => (match F7_d N () with | some y12 => (k y12) | none => none) | false => (k false)) | false => (k false)) | false => (match (y7.2.2.2.2.2.2.2.2.2.2.2.2 == 5) with | true => (match (y9.2.2.2.2.2.2.2.2.2.2.2.2 == 4) with | true => (match (y11.2.2.2.2.2.2.2.2.2.2.2.2 == 4) with | true => (match F7_d N () with | some y13 => (k y13) | none => none) | false => (k false)) | false => (k false)) | false => (k false))) | false => (k false)) | false => (k false)) | none => none) else none) | none => none) | none => none) else none) | none => none) | none => none) | none => none)))) | none => none) | none => none) | none => none)) | none => none)
noncomputable abbrev F4_d (N : Nat) (x : (List (List AV)) × Int × Int) : Option (Bool) := (F4_s N).d x
theorem F4_parF (N : Nat) : ParF (F4_s N).t := by
  intro x α β k k' r r' h h1
  revert h
  dsimp only [F4_s]
  (repeat' (first | (with_reducible refine par_ite ?_ ?_) | (with_reducible refine par_both ?_ ?_) | split)) <;> intro h <;> first | exact h1 _ h | (cases h; done)
theorem F4_text (N : Nat) (x : (F4_s N).X) : acall (tabOf Tryd.prog) (F4_g N) F4_an (lam N []) Tryd.f4 (F4_s N).S ((F4_s N).args x) ((F4_s N).bs x) = (F4_s N).t x Ret (fun y => some ((F4_s N).ret y)) := by kernel_rfl
theorem F4_pat (N : Nat) (a : List AV) (b : List (List AV)) (x : (F4_s N).X) (h : (F4_s N).pat a b = some x) : a = (F4_s N).args x ∧ b = (F4_s N).bs x := by
  dsimp only [F4_s] at h
  split at h
  · cases h; exact ⟨rfl, rfl⟩
  · cases h
noncomputable def F4_e (N : Nat) : Ent Tryd.prog := entOf (tabOf_ok Tryd.prog) (gam_ok _) mixed 4 Tryd.f4 Tryd.func4 rfl F4_an (lam N []) (by
    have e : actOf F4_an (Tryd.f4.body.getD .skip) 0 = [] := by kernel_rfl
    rw [e]
    intro p hp
    cases hp) (F4_s N) (fun _ => ⟨rfl, rfl⟩) (F4_text N) (F4_pat N) (F4_parF N)
end Go.Proofs.YtdmedeaknnldcaaDoor
