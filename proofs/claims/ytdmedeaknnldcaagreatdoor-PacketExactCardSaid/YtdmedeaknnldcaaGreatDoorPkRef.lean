/- The reference's checksum as functions without memory. (written by gen_pkgiv.py) -/
import Derived.Test.YtdmedeaknnldcaaGreatDoorPkGiv
import Derived.Test.YtdmedeaknnldcaaGreatDoorCrcRef
namespace Go.Proofs.YtdmedeaknnldcaaGreatDoor
open Go.RowKit Crc
set_option linter.unusedVariables false
set_option linter.unusedSimpArgs false
set_option linter.unnecessarySimpa false
/-! ### seismonet/seismonetref06.Append -/
noncomputable def F19_s (N : Nat) : FSpec where
  X := ByteArray
  Y := ByteArray
  ash := [[none]]
  bsh := []
  S := ⟨[[none]], [], [], [], []⟩
  bm := false
  pat := fun a b => match a, b with
    | [(AV.v (.string a0))], [] => some a0
    | _, _ => none
  args := fun x => [(AV.v (.string x))]
  bs := fun x => []
  ret := fun y => ⟨(AV.v (.string y)), [], none, [], [], []⟩
  t := fun x α k => if x.size + 4 ≤ maxLen then k (appended x) else none
noncomputable abbrev F19_d (N : Nat) (x : ByteArray) : Option (ByteArray) := (F19_s N).d x
theorem F19_parF (N : Nat) : ParF (F19_s N).t := by
  intro x α β k k' r r' h h1
  revert h
  dsimp only [F19_s]
  (repeat' (first | (with_reducible refine par_ite ?_ ?_) | (with_reducible refine par_both ?_ ?_) | split)) <;> intro h <;> first | exact h1 _ h | (cases h; done)
theorem F19_pat (N : Nat) (a : List AV) (b : List (List AV)) (x : (F19_s N).X) (h : (F19_s N).pat a b = some x) : a = (F19_s N).args x ∧ b = (F19_s N).bs x := by
  dsimp only [F19_s] at h
  split at h
  · cases h; exact ⟨rfl, rfl⟩
  · cases h
noncomputable def F19_e (N : Nat) : Ent Tryz.prog where
  f := 19
  F := F19_s N
  ok := fun (x : ByteArray) y h => by
    have h : (if x.size + 4 ≤ maxLen then some (appended x) else none) = some y := h
    split at h
    · rename_i hx
      cases h
      refine CallOk.plainT (v := .string (appended x)) (fun _ _ _ => .v) ⟨Tryz.f19, Tryz.func19, rfl, rfl⟩ fun M w cargs σ hgl mem hsz hr => ?_
      rw [args1 hsz ((hr 0 (by rw [hsz]; exact Nat.one_pos) (by show 0 < 1; omega)).v_inv)]
      exact ref_append x hx w
    · cases h
  hp := F19_pat N
  hsl := fun y => rfl
/-! ### seismonet/seismonetref06.Check -/
noncomputable def F47_s (N : Nat) : FSpec where
  X := ByteArray
  Y := Bool
  ash := [[none]]
  bsh := []
  S := ⟨[[none]], [], [], [], []⟩
  bm := false
  pat := fun a b => match a, b with
    | [(AV.v (.string a0))], [] => some a0
    | _, _ => none
  args := fun x => [(AV.v (.string x))]
  bs := fun x => []
  ret := fun y => ⟨(AV.v (.bool y)), [], none, [], [], []⟩
  t := fun x α k => if x.size ≤ maxLen then k (check x) else none
noncomputable abbrev F47_d (N : Nat) (x : ByteArray) : Option (Bool) := (F47_s N).d x
theorem F47_parF (N : Nat) : ParF (F47_s N).t := by
  intro x α β k k' r r' h h1
  revert h
  dsimp only [F47_s]
  (repeat' (first | (with_reducible refine par_ite ?_ ?_) | (with_reducible refine par_both ?_ ?_) | split)) <;> intro h <;> first | exact h1 _ h | (cases h; done)
theorem F47_pat (N : Nat) (a : List AV) (b : List (List AV)) (x : (F47_s N).X) (h : (F47_s N).pat a b = some x) : a = (F47_s N).args x ∧ b = (F47_s N).bs x := by
  dsimp only [F47_s] at h
  split at h
  · cases h; exact ⟨rfl, rfl⟩
  · cases h
noncomputable def F47_e (N : Nat) : Ent Tryz.prog where
  f := 47
  F := F47_s N
  ok := fun (x : ByteArray) y h => by
    have h : (if x.size ≤ maxLen then some (check x) else none) = some y := h
    split at h
    · rename_i hx
      cases h
      refine CallOk.plainT (v := .bool (check x)) (fun _ _ _ => .v) ⟨Tryz.f47, Tryz.func47, rfl, rfl⟩ fun M w cargs σ hgl mem hsz hr => ?_
      rw [args1 hsz ((hr 0 (by rw [hsz]; exact Nat.one_pos) (by show 0 < 1; omega)).v_inv)]
      exact ref_check x hx w
    · cases h
  hp := F47_pat N
  hsl := fun y => rfl
end Go.Proofs.YtdmedeaknnldcaaGreatDoor
