/- The reference's Flip as a function without memory. (written by gen_pkgiv.py) -/
import Derived.Test.YtdmedeaknnldcaaDoorPkGiv
import Derived.Test.YtdmedeaknnldcaaDoorCrcRef
namespace Go.Proofs.YtdmedeaknnldcaaDoor
open Go.RowKit Crc
set_option linter.unusedVariables false
set_option linter.unusedSimpArgs false
set_option linter.unnecessarySimpa false
/-! ### seismonet/seismonetref06.Flip -/
noncomputable def F14_s (N : Nat) : FSpec where
  X := ByteArray × Int × Int × Int
  Y := ByteArray × Int
  ash := [[none], [none], [none], [none]]
  bsh := []
  S := ⟨[[none], [none]], [], [], [], []⟩
  bm := false
  pat := fun a b => match a, b with
    | [(AV.v (.string a0)), (AV.v (.int .i64 a1)), (AV.v (.int .i64 a2)), (AV.v (.int .i64 a3))], [] => some (a0, a1, a2, a3)
    | _, _ => none
  args := fun x => [(AV.v (.string x.1)), (AV.v (.int .i64 x.2.1)), (AV.v (.int .i64 x.2.2.1)), (AV.v (.int .i64 x.2.2.2))]
  bs := fun x => []
  ret := fun y => ⟨(AV.tup [(AV.v (.string y.1)), (AV.v (.int .i64 y.2))]), [], none, [], [], []⟩
  t := fun x α k => if x.1.size ≤ 1048576 ∧ 0 ≤ x.2.1 ∧ 1 ≤ x.2.2.1 ∧ x.2.2.1 ≤ 32 ∧ 0 ≤ x.2.2.2 ∧ x.2.2.2.toNat < 2 ^ x.2.2.1.toNat ∧ x.2.1.toNat + x.2.2.1.toNat ≤ 8 * x.1.size then k (⟨(flipTo x.1.data.toList x.2.1.toNat x.2.2.2.toNat x.2.2.1.toNat).toArray⟩, 0) else none
noncomputable abbrev F14_d (N : Nat) (x : ByteArray × Int × Int × Int) : Option (ByteArray × Int) := (F14_s N).d x
theorem F14_parF (N : Nat) : ParF (F14_s N).t := by
  intro x α β k k' r r' h h1
  revert h
  dsimp only [F14_s]
  (repeat' (first | (with_reducible refine par_ite ?_ ?_) | (with_reducible refine par_both ?_ ?_) | split)) <;> intro h <;> first | exact h1 _ h | (cases h; done)
theorem F14_pat (N : Nat) (a : List AV) (b : List (List AV)) (x : (F14_s N).X) (h : (F14_s N).pat a b = some x) : a = (F14_s N).args x ∧ b = (F14_s N).bs x := by
  dsimp only [F14_s] at h
  split at h
  · cases h; exact ⟨rfl, rfl⟩
  · cases h
noncomputable def F14_e (N : Nat) : Ent Tryd.prog where
  f := 14
  F := F14_s N
  ok := fun (x : ByteArray × Int × Int × Int) y h => by
    obtain ⟨s, a, l, m⟩ := x
    have h : (if s.size ≤ 1048576 ∧ 0 ≤ a ∧ 1 ≤ l ∧ l ≤ 32 ∧ 0 ≤ m ∧ m.toNat < 2 ^ l.toNat ∧ a.toNat + l.toNat ≤ 8 * s.size then some ((⟨(flipTo s.data.toList a.toNat m.toNat l.toNat).toArray⟩ : ByteArray), (0 : Int)) else none) = some y := h
    split at h
    · rename_i hx
      cases h
      obtain ⟨h1, h2, h3, h4, h5, h6, h7⟩ := hx
      refine CallOk.plainT (v := .tuple #[.string ⟨(flipTo s.data.toList a.toNat m.toNat l.toNat).toArray⟩, .int .i64 0]) (fun M ρ σ => rd_pair) ⟨Tryd.f14, Tryd.func14, rfl, rfl⟩ fun M w cargs σ hgl mem hsz hr => ?_
      have e1 : cargs.size = 4 := hsz
      rw [args4 e1 (hr 0 (by omega) (by show 0 < 4; omega)).v_inv (hr 1 (by omega) (by show 1 < 4; omega)).v_inv (hr 2 (by omega) (by show 2 < 4; omega)).v_inv (hr 3 (by omega) (by show 3 < 4; omega)).v_inv]
      have c := ref_flip_ok s h1 a.toNat l.toNat m.toNat (by omega) (by omega) h6 h7 w
      rw [Int.toNat_of_nonneg h2, Int.toNat_of_nonneg (by omega : 0 ≤ l), Int.toNat_of_nonneg h5] at c
      exact c
    · cases h
  hp := F14_pat N
  hsl := fun y => rfl
end Go.Proofs.YtdmedeaknnldcaaDoor
