/- Functions without memory. (written by sx.py) -/
import Derived.Test.YtlpebecbipjoaaaDoorNaIntG
namespace Go.Proofs.YtlpebecbipjoaaaDoor
open Go.RowKit
set_option linter.unusedVariables false
set_option linter.unusedSimpArgs false
set_option linter.unnecessarySimpa false
set_option maxRecDepth 4000
/-! ### seismonet/seismonetlaw17.NatInts (function 6) -/
def F6_an : Nat → Keep × Keep := anL []
noncomputable def F6_g (N : Nat) : GamK := gam (P := Tryd.prog) [F17_e N, F16_e N, F23_e N, F26_e N, F25_e N, F13_e N, F8_e N]
noncomputable def F6_s (N : Nat) : FSpec where
  X := Int × Int × Int
  Y := Bool
  ash := [[none], [none], [none]]
  bsh := []
  S := ⟨[[none]], [], [], [], []⟩
  bm := false
  pat := fun a b => match a, b with
    | [(AV.v (.int .u32 a0)), (AV.v (.int .u32 a1)), (AV.v (.int .u16 a2))], [] => some (a0, a1, a2)
    | _, _ => none
  args := fun x => [(AV.v (.int .u32 x.1)), (AV.v (.int .u32 x.2.1)), (AV.v (.int .u16 x.2.2))]
  bs := fun x => []
  ret := fun y => ⟨(AV.v (.bool y)), [], none, [], [], []⟩
  t := fun x α k => (match F17_d N (IntKind.i64.wrap x.1) with | some y1 => (match F17_d N (IntKind.i64.wrap x.2.1) with | some y2 => (match F16_d N (y1.1, y2.1) with | some y3 => (match F23_d N (y1.1, y2.1) with | some y4 => (match F26_d N y3.1 with | some y5 => (match F25_d N (y1.1, (i64 (1 + (IntKind.i64.wrap x.2.2)))) with | some y6 => (match F26_d N y6.1 with | some y7 => (match (y1.2 != 0) with | true => (k false) | false => (match (y2.2 != 0) with | true => (k false) | false => (match (y3.2 != 0) with | true => (k false) | false => (match (y4.2 != 0) with | true => (k false) | false => (match (y5.2 != 0) with | true => (k false) | false => (match (y6.2.2 != 0) with | true => (k false) | false => (match (y7.2 != 0) with | true => (k false) | false => (match (y5.1 != (i64 ((IntKind.i64.wrap x.1) + (IntKind.i64.wrap x.2.1)))) with | true => (k false) | false => (if (i64 (1 + (IntKind.i64.wrap x.2.2))) = 0 then none else (match (y7.1 != (i64 ((IntKind.i64.wrap x.1).tdiv (i64 (1 + (IntKind.i64.wrap x.2.2)))))) with | true => (k false) | false => (if (i64 (1 + (IntKind.i64.wrap x.2.2))) = 0 then none else (match (y6.2.1 != ((IntKind.i64.wrap x.1).tmod (i64 (1 + (IntKind.i64.wrap x.2.2))))) with | true => (k false) | false => (match F26_d N y4.1 with | some y8 => (match (decide ((IntKind.u64.wrap ((IntKind.u64.wrap x.1) * (IntKind.u64.wrap x.2.1))) ≤ 4611686018427387904)) with | true => (match (y8.2 != 0) with | true => (k false) | false => (match (y8.1 != (IntKind.i64.wrap (IntKind.u64.wrap ((IntKind.u64.wrap x.1) * (IntKind.u64.wrap x.2.1))))) with | true => (k false) | false => (match (decide (x.1 < x.2.1)) with | true => (match (decide (x.1 > x.2.1)) with | true => (match F13_d N (y1.1, y2.1) with | some y9 => (match (y9 == 1) with | true => (match F8_d N () with | some y10 => (k y10) | none => none) | false => (k false)) | none => none) | false => (match F13_d N (y1.1, y2.1) with | some y11 => (match (y11 == (-1)) with | true => (match F8_d N () with | some y12 => (k y12) | none => none) | false => (k false)) | none => none)) | false => (match (decide (x.1 > x.2.1)) with | true => (match F13_d N (y1.1, y2.1) with | some y13 => (match (y13 == 1) with | true => (match F8_d N () with | some y14 => (k y14) | none => none) | false => (k false)) | none => none) | false => (match F13_d N (y1.1, y2.1) with | some y15 => (match (y15 == 0) with | true => (match F8_d N () with | some y16 => (k y16) | none => none) | false => (k false)) | none => none))))) | false => (match (y8.2 != 2) with | true => (k false) | false => (match (decide (x.1 < x.2.1)) with | true => (match (decide (x.1 > x.2.1)) with | true => (match F13_d N (y1.1, y2.1) with | some y17 => (match (y17 == 1) with | true => (match F8_d N () with | some y18 => (k y18) | none => none) | false => (k false)) | none => none) | false => (match F13_d N (y1.1, y2.1) with | some y19 => (match (y19 == (-1)) with | true => (match F8_d N () with | some y20 => (k y20) | none => none) | false => (k false)) | none => none)) | false => (match (decide (x.1 > x.2.1)) with | true => (match F13_d N (y1.1, y2.1) with | some y21 => (match (y21 == 1) with | true => (match F8_d N () with | some y22 => (k y22) | none => none) | false => (k false)) | none => none) | false => (match F13_d N (y1.1, y2.1) with | some y23 => (match (y23 == 0) with | true => (match F8_d N () with | some y24 => (k y24) | none => none) | false => (k false)) | none => none))))) | none => none))))))))))))) | none => none) | none => none) | none => none) | none => none) | none => none) | none => none) | none => none)
noncomputable abbrev F6_d (N : Nat) (x : Int × Int × Int) : Option (Bool) := (F6_s N).d x
theorem F6_parF (N : Nat) : ParF (F6_s N).t := by
  intro x α β k k' r r' h h1
  revert h
  dsimp only [F6_s]
  (repeat' (first | (with_reducible refine par_ite ?_ ?_) | (with_reducible refine par_both ?_ ?_) | split)) <;> intro h <;> first | exact h1 _ h | (cases h; done)
theorem F6_text (N : Nat) (x : (F6_s N).X) : acall (tabOf Tryd.prog) (F6_g N) F6_an (lam N []) Tryd.f6 (F6_s N).S ((F6_s N).args x) ((F6_s N).bs x) = (F6_s N).t x Ret (fun y => some ((F6_s N).ret y)) := by kernel_rfl
theorem F6_pat (N : Nat) (a : List AV) (b : List (List AV)) (x : (F6_s N).X) (h : (F6_s N).pat a b = some x) : a = (F6_s N).args x ∧ b = (F6_s N).bs x := by
  dsimp only [F6_s] at h
  split at h
  · cases h; exact ⟨rfl, rfl⟩
  · cases h
noncomputable def F6_e (N : Nat) : Ent Tryd.prog := entOf (tabOf_ok Tryd.prog) (gam_ok _) mixed 6 Tryd.f6 Tryd.func6 rfl F6_an (lam N []) (by
    have e : actOf F6_an (Tryd.f6.body.getD .skip) 0 = [] := by kernel_rfl
    rw [e]
    intro p hp
    cases hp) (F6_s N) (fun _ => ⟨rfl, rfl⟩) (F6_text N) (F6_pat N) (F6_parF N)
end Go.Proofs.YtlpebecbipjoaaaDoor
