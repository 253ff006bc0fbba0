/- Functions without memory. (written by sx.py) -/
import Derived.Test.YtdmedeaknnldcaaGreatDoorPkU
namespace Go.Proofs.YtdmedeaknnldcaaGreatDoor
open Go.RowKit
set_option linter.unusedVariables false
set_option linter.unusedSimpArgs false
set_option linter.unnecessarySimpa false
set_option maxRecDepth 4000
/-! ### seismonet/seismonetlaw07.odd (function 12) -/
def F12_an : Nat → Keep × Keep := anL []
noncomputable def F12_g (N : Nat) : GamK := gam (P := Tryz.prog) [F8_e N, F30_e N]
noncomputable def F12_s (N : Nat) : FSpec where
  X := ByteArray × ByteArray × ByteArray × ByteArray × Int × Int × Int × Int × Int × Int × Int × (List (List AV)) × (List (List AV)) × Int
  Y := ByteArray × ByteArray × ByteArray × ByteArray × Int × Int × Int × Int × Int × Int × Int × (List (List AV)) × (List (List AV)) × Int
  ash := [[none], [none, none, none, none, none, none, none, none, none, none, none, some 1]]
  bsh := [[some 1, none]]
  S := ⟨[[none, none, none, none, none, none, none, none, none, none, none, some 1]], [[some 1, none]], [], [], []⟩
  bm := false
  pat := fun a b => match a, b with
    | [(AV.ptr 0 0), (AV.agg [(AV.v (.string a0)), (AV.v (.string a1)), (AV.v (.string a2)), (AV.v (.string a3)), (AV.v (.int .i64 a4)), (AV.v (.int .i64 a5)), (AV.v (.int .i64 a6)), (AV.v (.int .i64 a7)), (AV.v (.int .i64 a8)), (AV.v (.int .i64 a9)), (AV.v (.int .i64 a10)), (AV.list 1 a11 none)])], [[(AV.list 1 a12 none), (AV.v (.int .i64 a13))]] => some (a0, a1, a2, a3, a4, a5, a6, a7, a8, a9, a10, a11, a12, a13)
    | _, _ => none
  args := fun x => [(AV.ptr 0 0), (AV.agg [(AV.v (.string x.1)), (AV.v (.string x.2.1)), (AV.v (.string x.2.2.1)), (AV.v (.string x.2.2.2.1)), (AV.v (.int .i64 x.2.2.2.2.1)), (AV.v (.int .i64 x.2.2.2.2.2.1)), (AV.v (.int .i64 x.2.2.2.2.2.2.1)), (AV.v (.int .i64 x.2.2.2.2.2.2.2.1)), (AV.v (.int .i64 x.2.2.2.2.2.2.2.2.1)), (AV.v (.int .i64 x.2.2.2.2.2.2.2.2.2.1)), (AV.v (.int .i64 x.2.2.2.2.2.2.2.2.2.2.1)), (AV.list 1 x.2.2.2.2.2.2.2.2.2.2.2.1 none)])]
  bs := fun x => [[(AV.list 1 x.2.2.2.2.2.2.2.2.2.2.2.2.1 none), (AV.v (.int .i64 x.2.2.2.2.2.2.2.2.2.2.2.2.2))]]
  ret := fun y => ⟨(AV.agg [(AV.v (.string y.1)), (AV.v (.string y.2.1)), (AV.v (.string y.2.2.1)), (AV.v (.string y.2.2.2.1)), (AV.v (.int .i64 y.2.2.2.2.1)), (AV.v (.int .i64 y.2.2.2.2.2.1)), (AV.v (.int .i64 y.2.2.2.2.2.2.1)), (AV.v (.int .i64 y.2.2.2.2.2.2.2.1)), (AV.v (.int .i64 y.2.2.2.2.2.2.2.2.1)), (AV.v (.int .i64 y.2.2.2.2.2.2.2.2.2.1)), (AV.v (.int .i64 y.2.2.2.2.2.2.2.2.2.2.1)), (AV.list 1 y.2.2.2.2.2.2.2.2.2.2.2.1 none)]), [[(AV.list 1 y.2.2.2.2.2.2.2.2.2.2.2.2.1 none), (AV.v (.int .i64 y.2.2.2.2.2.2.2.2.2.2.2.2.2))]], none, [], [], []⟩
  t := fun x α k => (match F8_d N (8, x.2.2.2.2.2.2.2.2.2.2.2.2.1, x.2.2.2.2.2.2.2.2.2.2.2.2.2) with | some y1 => (match (y1.1 == 0) with | true => (k (x.1, x.2.1, x.2.2.1, (⟨#[72, 90]⟩ : ByteArray), x.2.2.2.2.1, x.2.2.2.2.2.1, x.2.2.2.2.2.2.1, x.2.2.2.2.2.2.2.1, x.2.2.2.2.2.2.2.2.1, x.2.2.2.2.2.2.2.2.2.1, x.2.2.2.2.2.2.2.2.2.2.1, x.2.2.2.2.2.2.2.2.2.2.2.1, y1.2.1, y1.2.2)) | false => (match (y1.1 == 1) with | true => (match F30_d N ([[(AV.v (.int .i64 (-1)))], [(AV.v (.int .i64 65536))]], y1.2.1, y1.2.2) with | some y2 => (k (x.1, x.2.1, x.2.2.1, x.2.2.2.1, y2.1, x.2.2.2.2.2.1, x.2.2.2.2.2.2.1, x.2.2.2.2.2.2.2.1, x.2.2.2.2.2.2.2.2.1, x.2.2.2.2.2.2.2.2.2.1, x.2.2.2.2.2.2.2.2.2.2.1, x.2.2.2.2.2.2.2.2.2.2.2.1, y2.2.1, y2.2.2)) | none => none) | false => (match (y1.1 == 2) with | true => (match F30_d N ([[(AV.v (.int .i64 (-1)))], [(AV.v (.int .i64 1073741825))]], y1.2.1, y1.2.2) with | some y3 => (k (x.1, x.2.1, x.2.2.1, x.2.2.2.1, x.2.2.2.2.1, y3.1, x.2.2.2.2.2.2.1, x.2.2.2.2.2.2.2.1, x.2.2.2.2.2.2.2.2.1, x.2.2.2.2.2.2.2.2.2.1, x.2.2.2.2.2.2.2.2.2.2.1, x.2.2.2.2.2.2.2.2.2.2.2.1, y3.2.1, y3.2.2)) | none => none) | false => (match (y1.1 == 3) with | true => (match F30_d N ([[(AV.v (.int .i64 (-1)))], [(AV.v (.int .i64 9007199254740993))]], y1.2.1, y1.2.2) with | some y4 => (k (x.1, x.2.1, x.2.2.1, x.2.2.2.1, x.2.2.2.2.1, x.2.2.2.2.2.1, y4.1, x.2.2.2.2.2.2.2.1, x.2.2.2.2.2.2.2.2.1, x.2.2.2.2.2.2.2.2.2.1, x.2.2.2.2.2.2.2.2.2.2.1, x.2.2.2.2.2.2.2.2.2.2.2.1, y4.2.1, y4.2.2)) | none => none) | false => (match (y1.1 == 4) with | true => (k (x.1, x.2.1, x.2.2.1, x.2.2.2.1, x.2.2.2.2.1, x.2.2.2.2.2.1, x.2.2.2.2.2.2.1, 2, 4, x.2.2.2.2.2.2.2.2.2.1, x.2.2.2.2.2.2.2.2.2.2.1, x.2.2.2.2.2.2.2.2.2.2.2.1, y1.2.1, y1.2.2)) | false => (match (y1.1 == 5) with | true => (match F30_d N ([[(AV.v (.int .i64 (-1)))], [(AV.v (.int .i64 3))]], y1.2.1, y1.2.2) with | some y5 => (k (x.1, x.2.1, x.2.2.1, x.2.2.2.1, x.2.2.2.2.1, x.2.2.2.2.2.1, x.2.2.2.2.2.2.1, x.2.2.2.2.2.2.2.1, x.2.2.2.2.2.2.2.2.1, y5.1, x.2.2.2.2.2.2.2.2.2.2.1, x.2.2.2.2.2.2.2.2.2.2.2.1, y5.2.1, y5.2.2)) | none => none) | false => (match (y1.1 == 6) with | true => (match F30_d N ([[(AV.v (.int .i64 (-1)))], [(AV.v (.int .i64 1099511627777))]], y1.2.1, y1.2.2) with | some y6 => (k (x.1, x.2.1, x.2.2.1, x.2.2.2.1, x.2.2.2.2.1, x.2.2.2.2.2.1, x.2.2.2.2.2.2.1, x.2.2.2.2.2.2.2.1, x.2.2.2.2.2.2.2.2.1, x.2.2.2.2.2.2.2.2.2.1, y6.1, x.2.2.2.2.2.2.2.2.2.2.2.1, y6.2.1, y6.2.2)) | none => none) | false => (match (y1.1 == 7) with | true => (if 0 ≤ (421 : Int) ∧ (421 : Int) ≤ (421 : Int) ∧ (421 : Int).toNat * 8 ≤ maxBytes then (match F8_d N (3, y1.2.1, y1.2.2) with | some y7 => (if 0 ≤ y7.1 then (match [[(AV.v (.slice none 0 0))], [(AV.list 1 [[(AV.v (.int .i64 1073741824))]] none)], [(AV.list 1 (chunks ((List.replicate (421 : Int).toNat (AV.v (.int .i64 0))).take (((421 : Int).toNat) * 1)) 1 ((421 : Int).toNat)) none)]][y7.1.toNat]? with | some c8 => (match c8[0]? with | some x9 => (match lstOf 1 x9 with | some l10 => (k (x.1, x.2.1, x.2.2.1, x.2.2.2.1, x.2.2.2.2.1, x.2.2.2.2.2.1, x.2.2.2.2.2.2.1, x.2.2.2.2.2.2.2.1, x.2.2.2.2.2.2.2.2.1, x.2.2.2.2.2.2.2.2.2.1, x.2.2.2.2.2.2.2.2.2.2.1, l10, y7.2.1, y7.2.2)) | none => none) | none => none) | none => none) else none) | none => none) else none) | false => (k (x.1, x.2.1, x.2.2.1, x.2.2.2.1, x.2.2.2.2.1, x.2.2.2.2.2.1, x.2.2.2.2.2.2.1, x.2.2.2.2.2.2.2.1, x.2.2.2.2.2.2.2.2.1, x.2.2.2.2.2.2.2.2.2.1, x.2.2.2.2.2.2.2.2.2.2.1, x.2.2.2.2.2.2.2.2.2.2.2.1, y1.2.1, y1.2.2)))))))))) | none => none)
noncomputable abbrev F12_d (N : Nat) (x : ByteArray × ByteArray × ByteArray × ByteArray × Int × Int × Int × Int × Int × Int × Int × (List (List AV)) × (List (List AV)) × Int) : Option (ByteArray × ByteArray × ByteArray × ByteArray × Int × Int × Int × Int × Int × Int × Int × (List (List AV)) × (List (List AV)) × Int) := (F12_s N).d x
theorem F12_parF (N : Nat) : ParF (F12_s N).t := by
  intro x α β k k' r r' h h1
  revert h
  dsimp only [F12_s]
  (repeat' (first | (with_reducible refine par_ite ?_ ?_) | (with_reducible refine par_both ?_ ?_) | split)) <;> intro h <;> first | exact h1 _ h | (cases h; done)
theorem F12_text (N : Nat) (x : (F12_s N).X) : acall (tabB Tryz.prog [50]) (F12_g N) F12_an (lam N []) Tryz.f12 (F12_s N).S ((F12_s N).args x) ((F12_s N).bs x) = (F12_s N).t x Ret (fun y => some ((F12_s N).ret y)) := by kernel_rfl
theorem F12_pat (N : Nat) (a : List AV) (b : List (List AV)) (x : (F12_s N).X) (h : (F12_s N).pat a b = some x) : a = (F12_s N).args x ∧ b = (F12_s N).bs x := by
  dsimp only [F12_s] at h
  split at h
  · cases h; exact ⟨rfl, rfl⟩
  · cases h
noncomputable def F12_e (N : Nat) : Ent Tryz.prog := entOf (tabB_ok Tryz.prog [50]) (gam_ok _) mixed 12 Tryz.f12 Tryz.func12 rfl F12_an (lam N []) (by
    have e : actOf F12_an (Tryz.f12.body.getD .skip) 0 = [] := by kernel_rfl
    rw [e]
    intro p hp
    cases hp) (F12_s N) (fun _ => ⟨rfl, rfl⟩) (F12_text N) (F12_pat N) (F12_parF N)
/-! ### seismonet/packet.Record (function 14) -/
def F14_an : Nat → Keep × Keep := anL []
noncomputable def F14_g (N : Nat) : GamK := gam (P := Tryz.prog) [F16_e N]
noncomputable def F14_s (N : Nat) : FSpec where
  X := ByteArray × ByteArray × ByteArray × ByteArray × Int × Int × Int × Int × Int × Int × Int × (List (List AV))
  Y := ByteArray × ByteArray × ByteArray × ByteArray × Int × Int × Int × Int × Int × Int × Int × (List (List AV)) × Int
  ash := [[none, none, none, none, none, none, none, none, none, none, none, some 1]]
  bsh := []
  S := ⟨[[none, none, none, none, none, none, none, none, none, none, none, some 1], [none]], [], [], [], []⟩
  bm := false
  pat := fun a b => match a, b with
    | [(AV.agg [(AV.v (.string a0)), (AV.v (.string a1)), (AV.v (.string a2)), (AV.v (.string a3)), (AV.v (.int .i64 a4)), (AV.v (.int .i64 a5)), (AV.v (.int .i64 a6)), (AV.v (.int .i64 a7)), (AV.v (.int .i64 a8)), (AV.v (.int .i64 a9)), (AV.v (.int .i64 a10)), (AV.list 1 a11 none)])], [] => some (a0, a1, a2, a3, a4, a5, a6, a7, a8, a9, a10, a11)
    | _, _ => none
  args := fun x => [(AV.agg [(AV.v (.string x.1)), (AV.v (.string x.2.1)), (AV.v (.string x.2.2.1)), (AV.v (.string x.2.2.2.1)), (AV.v (.int .i64 x.2.2.2.2.1)), (AV.v (.int .i64 x.2.2.2.2.2.1)), (AV.v (.int .i64 x.2.2.2.2.2.2.1)), (AV.v (.int .i64 x.2.2.2.2.2.2.2.1)), (AV.v (.int .i64 x.2.2.2.2.2.2.2.2.1)), (AV.v (.int .i64 x.2.2.2.2.2.2.2.2.2.1)), (AV.v (.int .i64 x.2.2.2.2.2.2.2.2.2.2.1)), (AV.list 1 x.2.2.2.2.2.2.2.2.2.2.2 none)])]
  bs := fun x => []
  ret := fun y => ⟨(AV.tup [(AV.agg [(AV.v (.string y.1)), (AV.v (.string y.2.1)), (AV.v (.string y.2.2.1)), (AV.v (.string y.2.2.2.1)), (AV.v (.int .i64 y.2.2.2.2.1)), (AV.v (.int .i64 y.2.2.2.2.2.1)), (AV.v (.int .i64 y.2.2.2.2.2.2.1)), (AV.v (.int .i64 y.2.2.2.2.2.2.2.1)), (AV.v (.int .i64 y.2.2.2.2.2.2.2.2.1)), (AV.v (.int .i64 y.2.2.2.2.2.2.2.2.2.1)), (AV.v (.int .i64 y.2.2.2.2.2.2.2.2.2.2.1)), (AV.list 1 y.2.2.2.2.2.2.2.2.2.2.2.1 none)]), (AV.v (.int .i64 y.2.2.2.2.2.2.2.2.2.2.2.2))]), [], none, [], [], []⟩
  t := fun x α k => (match F16_d N (x.1, x.2.1, x.2.2.1, x.2.2.2.1, x.2.2.2.2.1, x.2.2.2.2.2.1, x.2.2.2.2.2.2.1, x.2.2.2.2.2.2.2.1, x.2.2.2.2.2.2.2.2.1, x.2.2.2.2.2.2.2.2.2.1, x.2.2.2.2.2.2.2.2.2.2.1, x.2.2.2.2.2.2.2.2.2.2.2) with | some y1 => (match (!y1) with | true => (k ((⟨#[]⟩ : ByteArray), (⟨#[]⟩ : ByteArray), (⟨#[]⟩ : ByteArray), (⟨#[]⟩ : ByteArray), 0, 0, 0, 0, 0, 0, 0, ([] : List (List AV)), 1)) | false => (match (x.2.2.2.2.2.2.2.2.2.1 == 2) with | true => (if x.2.2.2.2.2.2.2.2.2.2.2.length * 8 ≤ maxBytes then (k (x.1, x.2.1, x.2.2.1, x.2.2.2.1, x.2.2.2.2.2.2.1, 0, x.2.2.2.2.2.2.2.1, x.2.2.2.2.2.2.2.2.1, 1099511627776, x.2.2.2.2.1, x.2.2.2.2.2.1, x.2.2.2.2.2.2.2.2.2.2.2, 0)) else none) | false => (if x.2.2.2.2.2.2.2.2.2.2.2.length * 8 ≤ maxBytes then (k (x.1, x.2.1, x.2.2.1, x.2.2.2.1, x.2.2.2.2.2.2.1, 0, x.2.2.2.2.2.2.2.1, x.2.2.2.2.2.2.2.2.1, x.2.2.2.2.2.2.2.2.2.2.1, x.2.2.2.2.1, x.2.2.2.2.2.1, x.2.2.2.2.2.2.2.2.2.2.2, 0)) else none))) | none => none)
noncomputable abbrev F14_d (N : Nat) (x : ByteArray × ByteArray × ByteArray × ByteArray × Int × Int × Int × Int × Int × Int × Int × (List (List AV))) : Option (ByteArray × ByteArray × ByteArray × ByteArray × Int × Int × Int × Int × Int × Int × Int × (List (List AV)) × Int) := (F14_s N).d x
theorem F14_parF (N : Nat) : ParF (F14_s N).t := by
  intro x α β k k' r r' h h1
  revert h
  dsimp only [F14_s]
  (repeat' (first | (with_reducible refine par_ite ?_ ?_) | (with_reducible refine par_both ?_ ?_) | split)) <;> intro h <;> first | exact h1 _ h | (cases h; done)
theorem F14_text (N : Nat) (x : (F14_s N).X) : acall (tabOf Tryz.prog) (F14_g N) F14_an (lam N []) Tryz.f14 (F14_s N).S ((F14_s N).args x) ((F14_s N).bs x) = (F14_s N).t x Ret (fun y => some ((F14_s N).ret y)) := by kernel_rfl
theorem F14_pat (N : Nat) (a : List AV) (b : List (List AV)) (x : (F14_s N).X) (h : (F14_s N).pat a b = some x) : a = (F14_s N).args x ∧ b = (F14_s N).bs x := by
  dsimp only [F14_s] at h
  split at h
  · cases h; exact ⟨rfl, rfl⟩
  · cases h
noncomputable def F14_e (N : Nat) : Ent Tryz.prog := entOf (tabOf_ok Tryz.prog) (gam_ok _) mixed 14 Tryz.f14 Tryz.func14 rfl F14_an (lam N []) (by
    have e : actOf F14_an (Tryz.f14.body.getD .skip) 0 = [] := by kernel_rfl
    rw [e]
    intro p hp
    cases hp) (F14_s N) (fun _ => ⟨rfl, rfl⟩) (F14_text N) (F14_pat N) (F14_parF N)
/-! ### seismonet/seismonetref07.Record (function 15) -/
def F15_an : Nat → Keep × Keep := anL []
noncomputable def F15_g (N : Nat) : GamK := gam (P := Tryz.prog) [F17_e N]
noncomputable def F15_s (N : Nat) : FSpec where
  X := ByteArray × ByteArray × ByteArray × ByteArray × Int × Int × Int × Int × Int × Int × Int × (List (List AV))
  Y := ByteArray × ByteArray × ByteArray × ByteArray × Int × Int × Int × Int × Int × Int × Int × (List (List AV)) × Int
  ash := [[none, none, none, none, none, none, none, none, none, none, none, some 1]]
  bsh := []
  S := ⟨[[none, none, none, none, none, none, none, none, none, none, none, some 1], [none]], [], [], [], []⟩
  bm := false
  pat := fun a b => match a, b with
    | [(AV.agg [(AV.v (.string a0)), (AV.v (.string a1)), (AV.v (.string a2)), (AV.v (.string a3)), (AV.v (.int .i64 a4)), (AV.v (.int .i64 a5)), (AV.v (.int .i64 a6)), (AV.v (.int .i64 a7)), (AV.v (.int .i64 a8)), (AV.v (.int .i64 a9)), (AV.v (.int .i64 a10)), (AV.list 1 a11 none)])], [] => some (a0, a1, a2, a3, a4, a5, a6, a7, a8, a9, a10, a11)
    | _, _ => none
  args := fun x => [(AV.agg [(AV.v (.string x.1)), (AV.v (.string x.2.1)), (AV.v (.string x.2.2.1)), (AV.v (.string x.2.2.2.1)), (AV.v (.int .i64 x.2.2.2.2.1)), (AV.v (.int .i64 x.2.2.2.2.2.1)), (AV.v (.int .i64 x.2.2.2.2.2.2.1)), (AV.v (.int .i64 x.2.2.2.2.2.2.2.1)), (AV.v (.int .i64 x.2.2.2.2.2.2.2.2.1)), (AV.v (.int .i64 x.2.2.2.2.2.2.2.2.2.1)), (AV.v (.int .i64 x.2.2.2.2.2.2.2.2.2.2.1)), (AV.list 1 x.2.2.2.2.2.2.2.2.2.2.2 none)])]
  bs := fun x => []
  ret := fun y => ⟨(AV.tup [(AV.agg [(AV.v (.string y.1)), (AV.v (.string y.2.1)), (AV.v (.string y.2.2.1)), (AV.v (.string y.2.2.2.1)), (AV.v (.int .i64 y.2.2.2.2.1)), (AV.v (.int .i64 y.2.2.2.2.2.1)), (AV.v (.int .i64 y.2.2.2.2.2.2.1)), (AV.v (.int .i64 y.2.2.2.2.2.2.2.1)), (AV.v (.int .i64 y.2.2.2.2.2.2.2.2.1)), (AV.v (.int .i64 y.2.2.2.2.2.2.2.2.2.1)), (AV.v (.int .i64 y.2.2.2.2.2.2.2.2.2.2.1)), (AV.list 1 y.2.2.2.2.2.2.2.2.2.2.2.1 none)]), (AV.v (.int .i64 y.2.2.2.2.2.2.2.2.2.2.2.2))]), [], none, [], [], []⟩
  t := fun x α k => (match F17_d N (x.1, x.2.1, x.2.2.1, x.2.2.2.1, x.2.2.2.2.1, x.2.2.2.2.2.1, x.2.2.2.2.2.2.1, x.2.2.2.2.2.2.2.1, x.2.2.2.2.2.2.2.2.1, x.2.2.2.2.2.2.2.2.2.1, x.2.2.2.2.2.2.2.2.2.2.1, x.2.2.2.2.2.2.2.2.2.2.2) with | some y1 => (match (!y1) with | true => (k ((⟨#[]⟩ : ByteArray), (⟨#[]⟩ : ByteArray), (⟨#[]⟩ : ByteArray), (⟨#[]⟩ : ByteArray), 0, 0, 0, 0, 0, 0, 0, ([] : List (List AV)), 1)) | false => (match (x.2.2.2.2.2.2.2.2.2.1 == 2) with | true => (if x.2.2.2.2.2.2.2.2.2.2.2.length * 8 ≤ maxBytes then (k (x.1, x.2.1, x.2.2.1, x.2.2.2.1, x.2.2.2.2.2.2.1, 0, x.2.2.2.2.2.2.2.1, x.2.2.2.2.2.2.2.2.1, 1099511627776, x.2.2.2.2.1, x.2.2.2.2.2.1, x.2.2.2.2.2.2.2.2.2.2.2, 0)) else none) | false => (if x.2.2.2.2.2.2.2.2.2.2.2.length * 8 ≤ maxBytes then (k (x.1, x.2.1, x.2.2.1, x.2.2.2.1, x.2.2.2.2.2.2.1, 0, x.2.2.2.2.2.2.2.1, x.2.2.2.2.2.2.2.2.1, x.2.2.2.2.2.2.2.2.2.2.1, x.2.2.2.2.1, x.2.2.2.2.2.1, x.2.2.2.2.2.2.2.2.2.2.2, 0)) else none))) | none => none)
noncomputable abbrev F15_d (N : Nat) (x : ByteArray × ByteArray × ByteArray × ByteArray × Int × Int × Int × Int × Int × Int × Int × (List (List AV))) : Option (ByteArray × ByteArray × ByteArray × ByteArray × Int × Int × Int × Int × Int × Int × Int × (List (List AV)) × Int) := (F15_s N).d x
theorem F15_parF (N : Nat) : ParF (F15_s N).t := by
  intro x α β k k' r r' h h1
  revert h
  dsimp only [F15_s]
  (repeat' (first | (with_reducible refine par_ite ?_ ?_) | (with_reducible refine par_both ?_ ?_) | split)) <;> intro h <;> first | exact h1 _ h | (cases h; done)
theorem F15_text (N : Nat) (x : (F15_s N).X) : acall (tabOf Tryz.prog) (F15_g N) F15_an (lam N []) Tryz.f15 (F15_s N).S ((F15_s N).args x) ((F15_s N).bs x) = (F15_s N).t x Ret (fun y => some ((F15_s N).ret y)) := by kernel_rfl
theorem F15_pat (N : Nat) (a : List AV) (b : List (List AV)) (x : (F15_s N).X) (h : (F15_s N).pat a b = some x) : a = (F15_s N).args x ∧ b = (F15_s N).bs x := by
  dsimp only [F15_s] at h
  split at h
  · cases h; exact ⟨rfl, rfl⟩
  · cases h
noncomputable def F15_e (N : Nat) : Ent Tryz.prog := entOf (tabOf_ok Tryz.prog) (gam_ok _) mixed 15 Tryz.f15 Tryz.func15 rfl F15_an (lam N []) (by
    have e : actOf F15_an (Tryz.f15.body.getD .skip) 0 = [] := by kernel_rfl
    rw [e]
    intro p hp
    cases hp) (F15_s N) (fun _ => ⟨rfl, rfl⟩) (F15_text N) (F15_pat N) (F15_parF N)
/-! ### seismonet/seismonetref14.Same (function 18) -/
def F18_an : Nat → Keep × Keep := anL []
noncomputable def F18_g (N : Nat) : GamK := gam (P := Tryz.prog) [F43_e N]
noncomputable def F18_s (N : Nat) : FSpec where
  X := ByteArray × ByteArray × ByteArray × ByteArray × Int × Int × Int × Int × Int × Int × Int × (List (List AV)) × ByteArray × ByteArray × ByteArray × ByteArray × Int × Int × Int × Int × Int × Int × Int × (List (List AV))
  Y := Bool
  ash := [[none, none, none, none, none, none, none, none, none, none, none, some 1], [none, none, none, none, none, none, none, none, none, none, none, some 1]]
  bsh := []
  S := ⟨[[none]], [], [], [], []⟩
  bm := false
  pat := fun a b => match a, b with
    | [(AV.agg [(AV.v (.string a0)), (AV.v (.string a1)), (AV.v (.string a2)), (AV.v (.string a3)), (AV.v (.int .i64 a4)), (AV.v (.int .i64 a5)), (AV.v (.int .i64 a6)), (AV.v (.int .i64 a7)), (AV.v (.int .i64 a8)), (AV.v (.int .i64 a9)), (AV.v (.int .i64 a10)), (AV.list 1 a11 none)]), (AV.agg [(AV.v (.string a12)), (AV.v (.string a13)), (AV.v (.string a14)), (AV.v (.string a15)), (AV.v (.int .i64 a16)), (AV.v (.int .i64 a17)), (AV.v (.int .i64 a18)), (AV.v (.int .i64 a19)), (AV.v (.int .i64 a20)), (AV.v (.int .i64 a21)), (AV.v (.int .i64 a22)), (AV.list 1 a23 none)])], [] => some (a0, a1, a2, a3, a4, a5, a6, a7, a8, a9, a10, a11, a12, a13, a14, a15, a16, a17, a18, a19, a20, a21, a22, a23)
    | _, _ => none
  args := fun x => [(AV.agg [(AV.v (.string x.1)), (AV.v (.string x.2.1)), (AV.v (.string x.2.2.1)), (AV.v (.string x.2.2.2.1)), (AV.v (.int .i64 x.2.2.2.2.1)), (AV.v (.int .i64 x.2.2.2.2.2.1)), (AV.v (.int .i64 x.2.2.2.2.2.2.1)), (AV.v (.int .i64 x.2.2.2.2.2.2.2.1)), (AV.v (.int .i64 x.2.2.2.2.2.2.2.2.1)), (AV.v (.int .i64 x.2.2.2.2.2.2.2.2.2.1)), (AV.v (.int .i64 x.2.2.2.2.2.2.2.2.2.2.1)), (AV.list 1 x.2.2.2.2.2.2.2.2.2.2.2.1 none)]), (AV.agg [(AV.v (.string x.2.2.2.2.2.2.2.2.2.2.2.2.1)), (AV.v (.string x.2.2.2.2.2.2.2.2.2.2.2.2.2.1)), (AV.v (.string x.2.2.2.2.2.2.2.2.2.2.2.2.2.2.1)), (AV.v (.string x.2.2.2.2.2.2.2.2.2.2.2.2.2.2.2.1)), (AV.v (.int .i64 x.2.2.2.2.2.2.2.2.2.2.2.2.2.2.2.2.1)), (AV.v (.int .i64 x.2.2.2.2.2.2.2.2.2.2.2.2.2.2.2.2.2.1)), (AV.v (.int .i64 x.2.2.2.2.2.2.2.2.2.2.2.2.2.2.2.2.2.2.1)), (AV.v (.int .i64 x.2.2.2.2.2.2.2.2.2.2.2.2.2.2.2.2.2.2.2.1)), (AV.v (.int .i64 x.2.2.2.2.2.2.2.2.2.2.2.2.2.2.2.2.2.2.2.2.1)), (AV.v (.int .i64 x.2.2.2.2.2.2.2.2.2.2.2.2.2.2.2.2.2.2.2.2.2.1)), (AV.v (.int .i64 x.2.2.2.2.2.2.2.2.2.2.2.2.2.2.2.2.2.2.2.2.2.2.1)), (AV.list 1 x.2.2.2.2.2.2.2.2.2.2.2.2.2.2.2.2.2.2.2.2.2.2.2 none)])]
  bs := fun x => []
  ret := fun y => ⟨(AV.v (.bool y)), [], none, [], [], []⟩
  t := fun x α k => (match ((x.1 == x.2.2.2.2.2.2.2.2.2.2.2.2.1) && ((x.2.1 == x.2.2.2.2.2.2.2.2.2.2.2.2.2.1) && ((x.2.2.1 == x.2.2.2.2.2.2.2.2.2.2.2.2.2.2.1) && ((x.2.2.2.1 == x.2.2.2.2.2.2.2.2.2.2.2.2.2.2.2.1) && true)))) with | true => (match (x.2.2.2.2.1 == x.2.2.2.2.2.2.2.2.2.2.2.2.2.2.2.2.1) with | true => (match (x.2.2.2.2.2.1 == x.2.2.2.2.2.2.2.2.2.2.2.2.2.2.2.2.2.1) with | true => (match ((x.2.2.2.2.2.2.1 == x.2.2.2.2.2.2.2.2.2.2.2.2.2.2.2.2.2.2.1) && ((x.2.2.2.2.2.2.2.1 == x.2.2.2.2.2.2.2.2.2.2.2.2.2.2.2.2.2.2.2.1) && true)) with | true => (match (x.2.2.2.2.2.2.2.2.1 == x.2.2.2.2.2.2.2.2.2.2.2.2.2.2.2.2.2.2.2.2.1) with | true => (match (x.2.2.2.2.2.2.2.2.2.1 == x.2.2.2.2.2.2.2.2.2.2.2.2.2.2.2.2.2.2.2.2.2.1) with | true => (match (x.2.2.2.2.2.2.2.2.2.2.1 == x.2.2.2.2.2.2.2.2.2.2.2.2.2.2.2.2.2.2.2.2.2.2.1) with | true => (match F43_d N (x.2.2.2.2.2.2.2.2.2.2.2.1, x.2.2.2.2.2.2.2.2.2.2.2.2.2.2.2.2.2.2.2.2.2.2.2) with | some y1 => (k y1) | none => none) | false => (k false)) | false => (k false)) | false => (k false)) | false => (k false)) | false => (k false)) | false => (k false)) | false => (k false))
noncomputable abbrev F18_d (N : Nat) (x : ByteArray × ByteArray × ByteArray × ByteArray × Int × Int × Int × Int × Int × Int × Int × (List (List AV)) × ByteArray × ByteArray × ByteArray × ByteArray × Int × Int × Int × Int × Int × Int × Int × (List (List AV))) : Option (Bool) := (F18_s N).d x
theorem F18_parF (N : Nat) : ParF (F18_s N).t := by
  intro x α β k k' r r' h h1
  revert h
  dsimp only [F18_s]
  (repeat' (first | (with_reducible refine par_ite ?_ ?_) | (with_reducible refine par_both ?_ ?_) | split)) <;> intro h <;> first | exact h1 _ h | (cases h; done)
theorem F18_text (N : Nat) (x : (F18_s N).X) : acall (tabOf Tryz.prog) (F18_g N) F18_an (lam N []) Tryz.f18 (F18_s N).S ((F18_s N).args x) ((F18_s N).bs x) = (F18_s N).t x Ret (fun y => some ((F18_s N).ret y)) := by kernel_rfl
theorem F18_pat (N : Nat) (a : List AV) (b : List (List AV)) (x : (F18_s N).X) (h : (F18_s N).pat a b = some x) : a = (F18_s N).args x ∧ b = (F18_s N).bs x := by
  dsimp only [F18_s] at h
  split at h
  · cases h; exact ⟨rfl, rfl⟩
  · cases h
noncomputable def F18_e (N : Nat) : Ent Tryz.prog := entOf (tabOf_ok Tryz.prog) (gam_ok _) mixed 18 Tryz.f18 Tryz.func18 rfl F18_an (lam N []) (by
    have e : actOf F18_an (Tryz.f18.body.getD .skip) 0 = [] := by kernel_rfl
    rw [e]
    intro p hp
    cases hp) (F18_s N) (fun _ => ⟨rfl, rfl⟩) (F18_text N) (F18_pat N) (F18_parF N)
/-! ### seismonet/seismonetref07.Length (function 23) -/
def F23_an : Nat → Keep × Keep := anL []
noncomputable def F23_g (N : Nat) : GamK := gam (P := Tryz.prog) [F42_e N]
noncomputable def F23_s (N : Nat) : FSpec where
  X := ByteArray
  Y := Int × Int
  ash := [[none]]
  bsh := []
  S := ⟨[[none], [none]], [], [], [], []⟩
  bm := false
  pat := fun a b => match a, b with
    | [(AV.v (.string a0))], [] => some a0
    | _, _ => none
  args := fun x => [(AV.v (.string x))]
  bs := fun x => []
  ret := fun y => ⟨(AV.tup [(AV.v (.int .i64 y.1)), (AV.v (.int .i64 y.2))]), [], none, [], [], []⟩
  t := fun x α k => (match (decide ((x.size : Int) < 31)) with | true => (k (0, 4)) | false => (if 0 ≤ (3 : Int) ∧ (3 : Int) ≤ x.size then (match (!((x.extract 0 (3 : Int).toNat).toList == (⟨#[83, 78, 1]⟩ : ByteArray).toList)) with | true => (k (0, 3)) | false => (if 0 ≤ (29 : Int) then (match x[(29 : Int).toNat]? with | some c1 => (match F42_d N ((IntKind.i64.wrap (c1.toNat : Int)), 8, 15) with | some y2 => (match (!y2) with | true => (k (0, 3)) | false => (if 0 ≤ (30 : Int) then (match x[(30 : Int).toNat]? with | some c3 => (match F42_d N ((IntKind.i64.wrap (c3.toNat : Int)), 1, 8) with | some y4 => (match (!y4) with | true => (k (0, 3)) | false => (if 0 ≤ (29 : Int) then (match x[(29 : Int).toNat]? with | some c5 => (if 0 ≤ (30 : Int) then (match x[(30 : Int).toNat]? with | some c6 => (k ((i64 ((i64 ((i64 (31 + (IntKind.i64.wrap (c5.toNat : Int)))) + (i64 (64 * (IntKind.i64.wrap (c6.toNat : Int)))))) + 4)), 0)) | none => none) else none) | none => none) else none)) | none => none) | none => none) else none)) | none => none) | none => none) else none)) else none))
noncomputable abbrev F23_d (N : Nat) (x : ByteArray) : Option (Int × Int) := (F23_s N).d x
theorem F23_parF (N : Nat) : ParF (F23_s N).t := by
  intro x α β k k' r r' h h1
  revert h
  dsimp only [F23_s]
  (repeat' (first | (with_reducible refine par_ite ?_ ?_) | (with_reducible refine par_both ?_ ?_) | split)) <;> intro h <;> first | exact h1 _ h | (cases h; done)
theorem F23_text (N : Nat) (x : (F23_s N).X) : acall (tabOf Tryz.prog) (F23_g N) F23_an (lam N []) Tryz.f23 (F23_s N).S ((F23_s N).args x) ((F23_s N).bs x) = (F23_s N).t x Ret (fun y => some ((F23_s N).ret y)) := by kernel_rfl
theorem F23_pat (N : Nat) (a : List AV) (b : List (List AV)) (x : (F23_s N).X) (h : (F23_s N).pat a b = some x) : a = (F23_s N).args x ∧ b = (F23_s N).bs x := by
  dsimp only [F23_s] at h
  split at h
  · cases h; exact ⟨rfl, rfl⟩
  · cases h
noncomputable def F23_e (N : Nat) : Ent Tryz.prog := entOf (tabOf_ok Tryz.prog) (gam_ok _) mixed 23 Tryz.f23 Tryz.func23 rfl F23_an (lam N []) (by
    have e : actOf F23_an (Tryz.f23.body.getD .skip) 0 = [] := by kernel_rfl
    rw [e]
    intro p hp
    cases hp) (F23_s N) (fun _ => ⟨rfl, rfl⟩) (F23_text N) (F23_pat N) (F23_parF N)
/-! ### seismonet/seismonetref07.get (function 48) -/
def F48_an : Nat → Keep × Keep := anL []
noncomputable def F48_g (N : Nat) : GamK := gam (P := Tryz.prog) [F76_e N]
noncomputable def F48_s (N : Nat) : FSpec where
  X := ByteArray × Int × Int
  Y := Int
  ash := [[none], [none], [none]]
  bsh := []
  S := ⟨[[none]], [], [], [], []⟩
  bm := false
  pat := fun a b => match a, b with
    | [(AV.v (.string a0)), (AV.v (.int .i64 a1)), (AV.v (.int .i64 a2))], [] => some (a0, a1, a2)
    | _, _ => none
  args := fun x => [(AV.v (.string x.1)), (AV.v (.int .i64 x.2.1)), (AV.v (.int .i64 x.2.2))]
  bs := fun x => []
  ret := fun y => ⟨(AV.v (.int .i64 y)), [], none, [], [], []⟩
  t := fun x α k => (match F76_d N (x.1, x.2.1, x.2.2) with | some y1 => (k y1.1) | none => none)
noncomputable abbrev F48_d (N : Nat) (x : ByteArray × Int × Int) : Option (Int) := (F48_s N).d x
theorem F48_parF (N : Nat) : ParF (F48_s N).t := by
  intro x α β k k' r r' h h1
  revert h
  dsimp only [F48_s]
  (repeat' (first | (with_reducible refine par_ite ?_ ?_) | (with_reducible refine par_both ?_ ?_) | split)) <;> intro h <;> first | exact h1 _ h | (cases h; done)
theorem F48_text (N : Nat) (x : (F48_s N).X) : acall (tabOf Tryz.prog) (F48_g N) F48_an (lam N []) Tryz.f48 (F48_s N).S ((F48_s N).args x) ((F48_s N).bs x) = (F48_s N).t x Ret (fun y => some ((F48_s N).ret y)) := by kernel_rfl
theorem F48_pat (N : Nat) (a : List AV) (b : List (List AV)) (x : (F48_s N).X) (h : (F48_s N).pat a b = some x) : a = (F48_s N).args x ∧ b = (F48_s N).bs x := by
  dsimp only [F48_s] at h
  split at h
  · cases h; exact ⟨rfl, rfl⟩
  · cases h
noncomputable def F48_e (N : Nat) : Ent Tryz.prog := entOf (tabOf_ok Tryz.prog) (gam_ok _) mixed 48 Tryz.f48 Tryz.func48 rfl F48_an (lam N []) (by
    have e : actOf F48_an (Tryz.f48.body.getD .skip) 0 = [] := by kernel_rfl
    rw [e]
    intro p hp
    cases hp) (F48_s N) (fun _ => ⟨rfl, rfl⟩) (F48_text N) (F48_pat N) (F48_parF N)
/-! ### seismonet/seismonetref03.Split (function 77) -/
def F77_an : Nat → Keep × Keep := anF [(5, ⟨[0, 1, 6], [], [], [], [], [(5, 1)], [], [], false⟩, ⟨[], [], [], [], [], [(5, 1)], [], [], false⟩)] [(100008, ([5], []))]
noncomputable def F77_g (N : Nat) : GamK := gam (P := Tryz.prog) []
noncomputable def F77_l5 (N : Nat) : LSpec where
  X := Nat × ByteArray × Int × Int × (List AV)
  Y := (Nat × (List AV))
  p := fun s => match s.env.length, s.nin, s.at 5, s.at 0, s.at 1, s.at 6, s.bx 1000005 with
    | 36, 0, (AV.vs 1000005 0 a0 1), (AV.v (.string a1)), (AV.v (.int .u8 a2)), (AV.v (.int .i64 a3)), some a4 => some (a0, a1, a2, a3, a4)
    | _, _, _, _, _, _, _ => none
  st := fun x => mkS 36 [(5, (AV.vs 1000005 0 x.1 1)), (0, (AV.v (.string x.2.1))), (1, (AV.v (.int .u8 x.2.2.1))), (6, (AV.v (.int .i64 x.2.2.2.1)))] [(1000005, x.2.2.2.2)] (F77_an 5).1.toks 0
  out := fun y => (.exit 0, mkS 36 [(5, (AV.vs 1000005 0 y.1 1))] [(1000005, y.2)] (F77_an 5).2.toks 0)
  sp := fun y α k => k (.exit 0, mkS 36 [(5, (AV.vs 1000005 0 y.1 1))] [(1000005, y.2)] (F77_an 5).2.toks 0)
  spe := fun y α k => rfl
  b := fun x α kn ke => (match (decide (x.2.2.2.1 < (x.2.1.size : Int))) with | true => (if 0 ≤ x.2.2.2.1 then (match x.2.1[x.2.2.2.1.toNat]? with | some c1 => (match ((c1.toNat : Int) == x.2.2.1) with | true => (if x.1 * 1 ≤ x.2.2.2.2.length ∧ (x.1 + [[(AV.v (.string (⟨#[]⟩ : ByteArray)))]].length) * 16 ≤ maxBytes then (kn ((x.1 + [[(AV.v (.string (⟨#[]⟩ : ByteArray)))]].length), x.2.1, x.2.2.1, (i64 (x.2.2.2.1 + 1)), ((x.2.2.2.2.take (x.1 * 1) ++ [[(AV.v (.string (⟨#[]⟩ : ByteArray)))]].flatten).map dat0))) else none) | false => (if 0 ≤ (i64 (((x.1 : Nat) : Int) - 1)) ∧ (i64 (((x.1 : Nat) : Int) - 1)) < (x.1 : Int) then (match x.2.2.2.2[((0 + (i64 (((x.1 : Nat) : Int) - 1)).toNat) * 1)]? with | some x2 => (match x2 with | .v (.string s3) => (if 0 ≤ x.2.2.2.1 ∧ x.2.2.2.1 ≤ (i64 (x.2.2.2.1 + 1)) ∧ (i64 (x.2.2.2.1 + 1)) ≤ x.2.1.size then (if s3.size + (x.2.1.extract x.2.2.2.1.toNat (i64 (x.2.2.2.1 + 1)).toNat).size ≤ 9223372036854775807 then (if 0 ≤ (i64 (((x.1 : Nat) : Int) - 1)) ∧ (i64 (((x.1 : Nat) : Int) - 1)) < (x.1 : Int) then (if ((0 + (i64 (((x.1 : Nat) : Int) - 1)).toNat) * 1) + 1 ≤ x.2.2.2.2.length then (kn (x.1, x.2.1, x.2.2.1, (i64 (x.2.2.2.1 + 1)), ((x.2.2.2.2.set (((0 + (i64 (((x.1 : Nat) : Int) - 1)).toNat) * 1)) (AV.v (.string (s3 ++ (x.2.1.extract x.2.2.2.1.toNat (i64 (x.2.2.2.1 + 1)).toNat))))).map dat0))) else none) else none) else none) else none) | _ => none) | none => none) else none)) | none => none) else none) | false => (ke (x.1, (x.2.2.2.2.map dat0))))
noncomputable abbrev F77_d5 (N : Nat) (x : Nat × ByteArray × Int × Int × (List AV)) : Option ((Nat × (List AV))) := (F77_l5 N).L N x
noncomputable def F77_s (N : Nat) : FSpec where
  X := ByteArray × Int
  Y := (List (List AV))
  ash := [[none], [none]]
  bsh := []
  S := ⟨[[some 2000001]], [], [], [], []⟩
  bm := false
  pat := fun a b => match a, b with
    | [(AV.v (.string a0)), (AV.v (.int .u8 a1))], [] => some (a0, a1)
    | _, _ => none
  args := fun x => [(AV.v (.string x.1)), (AV.v (.int .u8 x.2))]
  bs := fun x => []
  ret := fun y => ⟨(AV.list 1 y (some 2560000000)), [], none, [], [2560000000], []⟩
  t := fun x α k => (match F77_d5 N (1, x.1, x.2, 0, ([(AV.v (.string (⟨#[]⟩ : ByteArray)))].map dat0)) with | some y4 => (if y4.1 * 1 ≤ y4.2.length then (k (chunks (y4.2.take (y4.1 * 1)) 1 y4.1)) else none) | none => none)
noncomputable abbrev F77_d (N : Nat) (x : ByteArray × Int) : Option ((List (List AV))) := (F77_s N).d x
theorem F77_par5 (N : Nat) : Par (F77_l5 N).b := by
  intro x α β kn ke kn' ke' r r' h h1 h2
  revert h
  dsimp only [F77_l5]
  (repeat' (first | (with_reducible refine par_ite ?_ ?_) | (with_reducible refine par_both ?_ ?_) | split)) <;> intro h <;> first | exact h1 _ h | exact h2 _ h | (cases h; done)
theorem F77_body5 (N : Nat) (x : (F77_l5 N).X) (α : Type) (kn : AS → Option α) (ke : Out → Option α) : around (tabB Tryz.prog [7, 21]) (F77_g N) F77_an (lam N [(5, F77_l5 N)]) 5 (bodyOf (nthLoop 5 (Tryz.f77.body.getD .skip))) ((F77_l5 N).st x) kn ke = (F77_l5 N).b x α (fun x' => kn ((F77_l5 N).st x')) (fun y => (F77_l5 N).sp y α ke) := by kernel_rfl
theorem F77_pat5 (N : Nat) (s : AS) (x : (F77_l5 N).X) (hc : s = canon (F77_an 5).1 s) (h : (F77_l5 N).p s = some x) : s = (F77_l5 N).st x := by
  dsimp only [F77_l5] at h
  split at h
  · cases h
    exact canon_mk hc ‹_› ‹_› rfl rfl rfl ⟨‹_›, ‹_›, ‹_›, ‹_›, trivial⟩ ⟨‹_›, trivial⟩
  · cases h
theorem F77_loop5 (N : Nat) : ∀ s o, s = canon (F77_an 5).1 s → (lam N [(5, F77_l5 N)]).v 5 s = some o → LoopSem Tryz.prog (nthLoop 5 (Tryz.f77.body.getD .skip)) s o :=
  loop_ok (tabB_ok Tryz.prog [7, 21]) (gam_ok _) mixed F77_an N [(5, F77_l5 N)] 5 (bodyOf (nthLoop 5 (Tryz.f77.body.getD .skip))) (nthLoop 5 (Tryz.f77.body.getD .skip)) (by kernel_rfl) (by
    have e : actOf F77_an (bodyOf (nthLoop 5 (Tryz.f77.body.getD .skip))) (5 + 1) = [] := by kernel_rfl
    rw [e]
    intro p hp
    cases hp) (F77_l5 N) rfl (fun s x hc h => F77_pat5 N s x hc h) (fun x => rfl) (fun x α kn ke => (F77_body5 N x α kn ke).trans (congrArg ((F77_l5 N).b x α _) (funext fun y => (F77_l5 N).spe y α ke))) (F77_par5 N)
theorem F77_parF (N : Nat) : ParF (F77_s N).t := by
  intro x α β k k' r r' h h1
  revert h
  dsimp only [F77_s]
  (repeat' (first | (with_reducible refine par_ite ?_ ?_) | (with_reducible refine par_both ?_ ?_) | split)) <;> intro h <;> first | exact h1 _ h | (cases h; done)
theorem F77_text (N : Nat) (x : (F77_s N).X) : acall (tabB Tryz.prog [7, 21]) (F77_g N) F77_an (lam N [(5, F77_l5 N)]) Tryz.f77 (F77_s N).S ((F77_s N).args x) ((F77_s N).bs x) = (F77_s N).t x Ret (fun y => some ((F77_s N).ret y)) := by kernel_rfl
theorem F77_pat (N : Nat) (a : List AV) (b : List (List AV)) (x : (F77_s N).X) (h : (F77_s N).pat a b = some x) : a = (F77_s N).args x ∧ b = (F77_s N).bs x := by
  dsimp only [F77_s] at h
  split at h
  · cases h; exact ⟨rfl, rfl⟩
  · cases h
noncomputable def F77_e (N : Nat) : Ent Tryz.prog := entOf (tabB_ok Tryz.prog [7, 21]) (gam_ok _) mixed 77 Tryz.f77 Tryz.func77 rfl F77_an (lam N [(5, F77_l5 N)]) (by
    have e : actOf F77_an (Tryz.f77.body.getD .skip) 0 = [(5, nthLoop 5 (Tryz.f77.body.getD .skip))] := by kernel_rfl
    rw [e]
    intro p hp
    rcases List.mem_cons.1 hp with rfl | hp
    · exact F77_loop5 N
    cases hp) (F77_s N) (fun _ => ⟨rfl, rfl⟩) (F77_text N) (F77_pat N) (F77_parF N)
/-! ### seismonet/seismonetref03.Parse (function 49) -/
def F49_an : Nat → Keep × Keep := anL []
noncomputable def F49_g (N : Nat) : GamK := gam (P := Tryz.prog) [F77_e N, F40_e N]
noncomputable def F49_s (N : Nat) : FSpec where
  X := ByteArray
  Y := ByteArray × ByteArray × ByteArray × ByteArray × Int
  ash := [[none]]
  bsh := []
  S := ⟨[[none, none, none, none], [none]], [], [], [], []⟩
  bm := false
  pat := fun a b => match a, b with
    | [(AV.v (.string a0))], [] => some a0
    | _, _ => none
  args := fun x => [(AV.v (.string x))]
  bs := fun x => []
  ret := fun y => ⟨(AV.tup [(AV.agg [(AV.v (.string y.1)), (AV.v (.string y.2.1)), (AV.v (.string y.2.2.1)), (AV.v (.string y.2.2.2.1))]), (AV.v (.int .i64 y.2.2.2.2))]), [], none, [], [], []⟩
  t := fun x α k => (match F77_d N (x, 46) with | some y1 => (match ((y1.length : Int) != 4) with | true => (k ((⟨#[]⟩ : ByteArray), (⟨#[]⟩ : ByteArray), (⟨#[]⟩ : ByteArray), (⟨#[]⟩ : ByteArray), 3)) | false => (if 0 ≤ (0 : Int) then (match y1[(0 : Int).toNat]? with | some c2 => (match c2[0]? with | some x3 => (match x3 with | .v (.string s4) => (if 0 ≤ (1 : Int) then (match y1[(1 : Int).toNat]? with | some c5 => (match c5[0]? with | some x6 => (match x6 with | .v (.string s7) => (if 0 ≤ (2 : Int) then (match y1[(2 : Int).toNat]? with | some c8 => (match c8[0]? with | some x9 => (match x9 with | .v (.string s10) => (if 0 ≤ (3 : Int) then (match y1[(3 : Int).toNat]? with | some c11 => (match c11[0]? with | some x12 => (match x12 with | .v (.string s13) => (match F40_d N (s4, s7, s10, s13) with | some y14 => (match (!y14) with | true => (k ((⟨#[]⟩ : ByteArray), (⟨#[]⟩ : ByteArray), (⟨#[]⟩ : ByteArray), (⟨#[]⟩ : ByteArray), 3)) | false => (k (s4, s7, s10, s13, 0))) | none => none) | _ => none) | none => none) | none => none) else none) | _ => none) | none => none) | none => none) else none) | _ => none) | none => none) | none => none) else none) | _ => none) | none => none) | none => none) else none)) | none => none)
noncomputable abbrev F49_d (N : Nat) (x : ByteArray) : Option (ByteArray × ByteArray × ByteArray × ByteArray × Int) := (F49_s N).d x
theorem F49_parF (N : Nat) : ParF (F49_s N).t := by
  intro x α β k k' r r' h h1
  revert h
  dsimp only [F49_s]
  (repeat' (first | (with_reducible refine par_ite ?_ ?_) | (with_reducible refine par_both ?_ ?_) | split)) <;> intro h <;> first | exact h1 _ h | (cases h; done)
theorem F49_text (N : Nat) (x : (F49_s N).X) : acall (tabOf Tryz.prog) (F49_g N) F49_an (lam N []) Tryz.f49 (F49_s N).S ((F49_s N).args x) ((F49_s N).bs x) = (F49_s N).t x Ret (fun y => some ((F49_s N).ret y)) := by kernel_rfl
theorem F49_pat (N : Nat) (a : List AV) (b : List (List AV)) (x : (F49_s N).X) (h : (F49_s N).pat a b = some x) : a = (F49_s N).args x ∧ b = (F49_s N).bs x := by
  dsimp only [F49_s] at h
  split at h
  · cases h; exact ⟨rfl, rfl⟩
  · cases h
noncomputable def F49_e (N : Nat) : Ent Tryz.prog := entOf (tabOf_ok Tryz.prog) (gam_ok _) mixed 49 Tryz.f49 Tryz.func49 rfl F49_an (lam N []) (by
    have e : actOf F49_an (Tryz.f49.body.getD .skip) 0 = [] := by kernel_rfl
    rw [e]
    intro p hp
    cases hp) (F49_s N) (fun _ => ⟨rfl, rfl⟩) (F49_text N) (F49_pat N) (F49_parF N)
/-! ### seismonet/seismonetref07.Decode (function 21) -/
def F21_an : Nat → Keep × Keep := anL []
noncomputable def F21_g (N : Nat) : GamK := gam (P := Tryz.prog) [F23_e N, F47_e N, F48_e N, F49_e N, F50_e N, F9_e N]
noncomputable def F21_s (N : Nat) : FSpec where
  X := ByteArray
  Y := ByteArray × ByteArray × ByteArray × ByteArray × Int × Int × Int × Int × Int × Int × Int × (List (List AV)) × Int
  ash := [[none]]
  bsh := []
  S := ⟨[[none, none, none, none, none, none, none, none, none, none, none, some 1], [none]], [], [], [], []⟩
  bm := false
  pat := fun a b => match a, b with
    | [(AV.v (.string a0))], [] => some a0
    | _, _ => none
  args := fun x => [(AV.v (.string x))]
  bs := fun x => []
  ret := fun y => ⟨(AV.tup [(AV.agg [(AV.v (.string y.1)), (AV.v (.string y.2.1)), (AV.v (.string y.2.2.1)), (AV.v (.string y.2.2.2.1)), (AV.v (.int .i64 y.2.2.2.2.1)), (AV.v (.int .i64 y.2.2.2.2.2.1)), (AV.v (.int .i64 y.2.2.2.2.2.2.1)), (AV.v (.int .i64 y.2.2.2.2.2.2.2.1)), (AV.v (.int .i64 y.2.2.2.2.2.2.2.2.1)), (AV.v (.int .i64 y.2.2.2.2.2.2.2.2.2.1)), (AV.v (.int .i64 y.2.2.2.2.2.2.2.2.2.2.1)), (AV.list 1 y.2.2.2.2.2.2.2.2.2.2.2.1 none)]), (AV.v (.int .i64 y.2.2.2.2.2.2.2.2.2.2.2.2))]), [], none, [], [], []⟩
  t := fun x α k => (match F23_d N x with | some y1 => (match (y1.2 != 0) with | true => (k ((⟨#[]⟩ : ByteArray), (⟨#[]⟩ : ByteArray), (⟨#[]⟩ : ByteArray), (⟨#[]⟩ : ByteArray), 0, 0, 0, 0, 0, 0, 0, ([] : List (List AV)), y1.2)) | false => (match (decide ((x.size : Int) < y1.1)) with | true => (k ((⟨#[]⟩ : ByteArray), (⟨#[]⟩ : ByteArray), (⟨#[]⟩ : ByteArray), (⟨#[]⟩ : ByteArray), 0, 0, 0, 0, 0, 0, 0, ([] : List (List AV)), 4)) | false => (match (decide ((x.size : Int) > y1.1)) with | true => (k ((⟨#[]⟩ : ByteArray), (⟨#[]⟩ : ByteArray), (⟨#[]⟩ : ByteArray), (⟨#[]⟩ : ByteArray), 0, 0, 0, 0, 0, 0, 0, ([] : List (List AV)), 3)) | false => (match F47_d N x with | some y2 => (match (!y2) with | true => (k ((⟨#[]⟩ : ByteArray), (⟨#[]⟩ : ByteArray), (⟨#[]⟩ : ByteArray), (⟨#[]⟩ : ByteArray), 0, 0, 0, 0, 0, 0, 0, ([] : List (List AV)), 5)) | false => (match F48_d N (x, 4, 2) with | some y3 => (match F48_d N (x, 6, 4) with | some y4 => (match F48_d N (x, 10, 7) with | some y5 => (match F48_d N (x, 17, 2) with | some y6 => (match F48_d N (x, 19, 2) with | some y7 => (match F48_d N (x, 3, 1) with | some y8 => (match F48_d N (x, 21, 6) with | some y9 => (if 0 ≤ (29 : Int) then (match x[(29 : Int).toNat]? with | some c10 => (if 0 ≤ (31 : Int) ∧ (31 : Int) ≤ (i64 (31 + (IntKind.i64.wrap (c10.toNat : Int)))) ∧ (i64 (31 + (IntKind.i64.wrap (c10.toNat : Int)))) ≤ x.size then (match F49_d N (x.extract (31 : Int).toNat (i64 (31 + (IntKind.i64.wrap (c10.toNat : Int)))).toNat) with | some y11 => (if 0 ≤ (i64 (31 + (IntKind.i64.wrap (c10.toNat : Int)))) ∧ (i64 (31 + (IntKind.i64.wrap (c10.toNat : Int)))) ≤ (i64 (y1.1 - 4)) ∧ (i64 (y1.1 - 4)) ≤ x.size then (match F48_d N (x, 27, 2) with | some y12 => (match F50_d N ((x.extract (i64 (31 + (IntKind.i64.wrap (c10.toNat : Int)))).toNat (i64 (y1.1 - 4)).toNat), y12) with | some y13 => (match (y11.2.2.2.2 != 0) with | true => (k ((⟨#[]⟩ : ByteArray), (⟨#[]⟩ : ByteArray), (⟨#[]⟩ : ByteArray), (⟨#[]⟩ : ByteArray), 0, 0, 0, 0, 0, 0, 0, ([] : List (List AV)), 3)) | false => (match (y13.2 != 0) with | true => (k ((⟨#[]⟩ : ByteArray), (⟨#[]⟩ : ByteArray), (⟨#[]⟩ : ByteArray), (⟨#[]⟩ : ByteArray), 0, 0, 0, 0, 0, 0, 0, ([] : List (List AV)), 3)) | false => (match F9_d N (y11.1, y11.2.1, y11.2.2.1, y11.2.2.2.1, y3, y4, y5, y6, y7, y8, y9, y13.1) with | some y14 => (match (y14.2 != 0) with | true => (k ((⟨#[]⟩ : ByteArray), (⟨#[]⟩ : ByteArray), (⟨#[]⟩ : ByteArray), (⟨#[]⟩ : ByteArray), 0, 0, 0, 0, 0, 0, 0, ([] : List (List AV)), 3)) | false => (match (!(y14.1.toList == x.toList)) with | true => (k ((⟨#[]⟩ : ByteArray), (⟨#[]⟩ : ByteArray), (⟨#[]⟩ : ByteArray), (⟨#[]⟩ : ByteArray), 0, 0, 0, 0, 0, 0, 0, ([] : List (List AV)), 3)) | false => (k (y11.1, y11.2.1, y11.2.2.1, y11.2.2.2.1, y3, y4, y5, y6, y7, y8, y9, y13.1, 0)))) | none => none))) | none => none) | none => none) else none) | none => none) else none) | none => none) else none) | none => none) | none => none) | none => none) | none => none) | none => none) | none => none) | none => none)) | none => none)))) | none => none)
noncomputable abbrev F21_d (N : Nat) (x : ByteArray) : Option (ByteArray × ByteArray × ByteArray × ByteArray × Int × Int × Int × Int × Int × Int × Int × (List (List AV)) × Int) := (F21_s N).d x
theorem F21_parF (N : Nat) : ParF (F21_s N).t := by
  intro x α β k k' r r' h h1
  revert h
  dsimp only [F21_s]
  (repeat' (first | (with_reducible refine par_ite ?_ ?_) | (with_reducible refine par_both ?_ ?_) | split)) <;> intro h <;> first | exact h1 _ h | (cases h; done)
theorem F21_text (N : Nat) (x : (F21_s N).X) : acall (tabOf Tryz.prog) (F21_g N) F21_an (lam N []) Tryz.f21 (F21_s N).S ((F21_s N).args x) ((F21_s N).bs x) = (F21_s N).t x Ret (fun y => some ((F21_s N).ret y)) := by kernel_rfl
theorem F21_pat (N : Nat) (a : List AV) (b : List (List AV)) (x : (F21_s N).X) (h : (F21_s N).pat a b = some x) : a = (F21_s N).args x ∧ b = (F21_s N).bs x := by
  dsimp only [F21_s] at h
  split at h
  · cases h; exact ⟨rfl, rfl⟩
  · cases h
noncomputable def F21_e (N : Nat) : Ent Tryz.prog := entOf (tabOf_ok Tryz.prog) (gam_ok _) mixed 21 Tryz.f21 Tryz.func21 rfl F21_an (lam N []) (by
    have e : actOf F21_an (Tryz.f21.body.getD .skip) 0 = [] := by kernel_rfl
    rw [e]
    intro p hp
    cases hp) (F21_s N) (fun _ => ⟨rfl, rfl⟩) (F21_text N) (F21_pat N) (F21_parF N)
/-! ### seismonet/seismonetref07.Split (function 24) -/
def F24_an : Nat → Keep × Keep := anL [(3, ⟨[0], [(5, 1)], [], [], [], [], [], [], false⟩, ⟨[3, 4], [], [], [(2, 1)], [], [], [], [], false⟩)]
noncomputable def F24_g (N : Nat) : GamK := gam (P := Tryz.prog) [F23_e N]
noncomputable def F24_l3 (N : Nat) : LSpec where
  X := (List (List AV)) × ByteArray
  Y := ((List (List AV)) × ByteArray × Int)
  p := fun s => match s.env.length, s.nin, s.at 5, s.at 0 with
    | 36, 0, (AV.list 1 a0 (some 1280000320)), (AV.v (.string a1)) => some (a0, a1)
    | _, _, _, _ => none
  st := fun x => mkS 36 [(5, (AV.list 1 x.1 (some 1280000320))), (0, (AV.v (.string x.2)))] [] (F24_an 3).1.toks 0
  out := fun y => (.ret, mkS 36 [(2, (AV.list 1 y.1 none)), (3, (AV.v (.string y.2.1))), (4, (AV.v (.int .i64 y.2.2)))] [] (F24_an 3).2.toks 0)
  sp := fun y α k => k (.ret, mkS 36 [(2, (AV.list 1 y.1 none)), (3, (AV.v (.string y.2.1))), (4, (AV.v (.int .i64 y.2.2)))] [] (F24_an 3).2.toks 0)
  spe := fun y α k => rfl
  b := fun x α kn ke => (match F23_d N x.2 with | some y1 => (match (y1.2 == 3) with | true => (ke (x.1, x.2, 3)) | false => (match (y1.2 != 0) with | true => (ke (x.1, x.2, 0)) | false => (match (decide ((x.2.size : Int) < y1.1)) with | true => (ke (x.1, x.2, 0)) | false => (if 0 ≤ y1.1 ∧ y1.1 ≤ x.2.size then (if (x.1.length + [[(AV.v (.string (x.2.extract 0 y1.1.toNat)))]].length) * 16 ≤ maxBytes then (if 0 ≤ y1.1 ∧ y1.1 ≤ x.2.size then (kn ((x.1 ++ [[(AV.v (.string (x.2.extract 0 y1.1.toNat)))]]), (x.2.extract y1.1.toNat x.2.size))) else none) else none) else none)))) | none => none)
noncomputable abbrev F24_d3 (N : Nat) (x : (List (List AV)) × ByteArray) : Option (((List (List AV)) × ByteArray × Int)) := (F24_l3 N).L N x
noncomputable def F24_s (N : Nat) : FSpec where
  X := ByteArray
  Y := (List (List AV)) × ByteArray × Int
  ash := [[none]]
  bsh := []
  S := ⟨[[some 1], [none], [none]], [], [], [], []⟩
  bm := false
  pat := fun a b => match a, b with
    | [(AV.v (.string a0))], [] => some a0
    | _, _ => none
  args := fun x => [(AV.v (.string x))]
  bs := fun x => []
  ret := fun y => ⟨(AV.tup [(AV.list 1 y.1 none), (AV.v (.string y.2.1)), (AV.v (.int .i64 y.2.2))]), [], none, [], [], []⟩
  t := fun x α k => (match F24_d3 N (([] : List (List AV)), x) with | some y2 => (k (y2.1, y2.2.1, y2.2.2)) | none => none)
noncomputable abbrev F24_d (N : Nat) (x : ByteArray) : Option ((List (List AV)) × ByteArray × Int) := (F24_s N).d x
theorem F24_par3 (N : Nat) : Par (F24_l3 N).b := by
  intro x α β kn ke kn' ke' r r' h h1 h2
  revert h
  dsimp only [F24_l3]
  (repeat' (first | (with_reducible refine par_ite ?_ ?_) | (with_reducible refine par_both ?_ ?_) | split)) <;> intro h <;> first | exact h1 _ h | exact h2 _ h | (cases h; done)
theorem F24_body3 (N : Nat) (x : (F24_l3 N).X) (α : Type) (kn : AS → Option α) (ke : Out → Option α) : around (tabOf Tryz.prog) (F24_g N) F24_an (lam N [(3, F24_l3 N)]) 3 (bodyOf (nthLoop 3 (Tryz.f24.body.getD .skip))) ((F24_l3 N).st x) kn ke = (F24_l3 N).b x α (fun x' => kn ((F24_l3 N).st x')) (fun y => (F24_l3 N).sp y α ke) := by kernel_rfl
theorem F24_pat3 (N : Nat) (s : AS) (x : (F24_l3 N).X) (hc : s = canon (F24_an 3).1 s) (h : (F24_l3 N).p s = some x) : s = (F24_l3 N).st x := by
  dsimp only [F24_l3] at h
  split at h
  · cases h
    exact canon_mk hc ‹_› ‹_› rfl rfl rfl ⟨‹_›, ‹_›, trivial⟩ trivial
  · cases h
theorem F24_loop3 (N : Nat) : ∀ s o, s = canon (F24_an 3).1 s → (lam N [(3, F24_l3 N)]).v 3 s = some o → LoopSem Tryz.prog (nthLoop 3 (Tryz.f24.body.getD .skip)) s o :=
  loop_ok (tabOf_ok Tryz.prog) (gam_ok _) mixed F24_an N [(3, F24_l3 N)] 3 (bodyOf (nthLoop 3 (Tryz.f24.body.getD .skip))) (nthLoop 3 (Tryz.f24.body.getD .skip)) (by kernel_rfl) (by
    have e : actOf F24_an (bodyOf (nthLoop 3 (Tryz.f24.body.getD .skip))) (3 + 1) = [] := by kernel_rfl
    rw [e]
    intro p hp
    cases hp) (F24_l3 N) rfl (fun s x hc h => F24_pat3 N s x hc h) (fun x => rfl) (fun x α kn ke => (F24_body3 N x α kn ke).trans (congrArg ((F24_l3 N).b x α _) (funext fun y => (F24_l3 N).spe y α ke))) (F24_par3 N)
theorem F24_parF (N : Nat) : ParF (F24_s N).t := by
  intro x α β k k' r r' h h1
  revert h
  dsimp only [F24_s]
  (repeat' (first | (with_reducible refine par_ite ?_ ?_) | (with_reducible refine par_both ?_ ?_) | split)) <;> intro h <;> first | exact h1 _ h | (cases h; done)
theorem F24_text (N : Nat) (x : (F24_s N).X) : acall (tabOf Tryz.prog) (F24_g N) F24_an (lam N [(3, F24_l3 N)]) Tryz.f24 (F24_s N).S ((F24_s N).args x) ((F24_s N).bs x) = (F24_s N).t x Ret (fun y => some ((F24_s N).ret y)) := by kernel_rfl
theorem F24_pat (N : Nat) (a : List AV) (b : List (List AV)) (x : (F24_s N).X) (h : (F24_s N).pat a b = some x) : a = (F24_s N).args x ∧ b = (F24_s N).bs x := by
  dsimp only [F24_s] at h
  split at h
  · cases h; exact ⟨rfl, rfl⟩
  · cases h
noncomputable def F24_e (N : Nat) : Ent Tryz.prog := entOf (tabOf_ok Tryz.prog) (gam_ok _) mixed 24 Tryz.f24 Tryz.func24 rfl F24_an (lam N [(3, F24_l3 N)]) (by
    have e : actOf F24_an (Tryz.f24.body.getD .skip) 0 = [(3, nthLoop 3 (Tryz.f24.body.getD .skip))] := by kernel_rfl
    rw [e]
    intro p hp
    rcases List.mem_cons.1 hp with rfl | hp
    · exact F24_loop3 N
    cases hp) (F24_s N) (fun _ => ⟨rfl, rfl⟩) (F24_text N) (F24_pat N) (F24_parF N)
/-! ### seismonet/seismonetlaw07.PacketExact (function 4) -/
def F4_an : Nat → Keep × Keep := anL [(10, ⟨[1, 7, 8, 66, 67], [], [8, 57], [(65, 12)], [], [], [], [], false⟩, ⟨[1, 6, 7, 8], [], [8, 57], [], [], [], [], [], false⟩), (34, ⟨[164, 165], [], [], [(163, 1)], [], [], [], [], false⟩, ⟨[6], [], [], [], [], [], [], [], false⟩), (53, ⟨[164, 165, 238, 239], [], [], [(34, 1), (37, 1), (163, 1)], [], [], [], [], false⟩, ⟨[6, 164, 165], [], [], [(163, 1)], [], [], [], [], false⟩)]
noncomputable def F4_g (N : Nat) : GamK := gam (P := Tryz.prog) [F5_e N, F6_e N, F7_e N, F10_e N, F12_e N, F13_e N, F9_e N, F14_e N, F15_e N, F16_e N, F17_e N, F18_e N, F8_e N, F19_e N, F20_e N, F21_e N, F22_e N, F23_e N, F11_e N, F24_e N, F25_e N]
noncomputable def F4_l53 (N : Nat) : LSpec where
  X := (List (List AV)) × (List (List AV)) × (List (List AV)) × Int × Int × Int × Int
  Y := ((List (List AV)) × Bool × Int × Int) ⊕ ((List (List AV)) × Int × Int)
  p := fun s => match s.env.length, s.nin, s.at 34, s.at 37, s.at 163, s.at 164, s.at 165, s.at 238, s.at 239 with
    | 254, 0, (AV.list 1 a0 none), (AV.list 1 a1 none), (AV.list 1 a2 none), (AV.v (.int .i64 a3)), (AV.v (.int .i64 a4)), (AV.v (.int .i64 a5)), (AV.v (.int .i64 a6)) => some (a0, a1, a2, a3, a4, a5, a6)
    | _, _, _, _, _, _, _, _, _ => none
  st := fun x => mkS 254 [(34, (AV.list 1 x.1 none)), (37, (AV.list 1 x.2.1 none)), (163, (AV.list 1 x.2.2.1 none)), (164, (AV.v (.int .i64 x.2.2.2.1))), (165, (AV.v (.int .i64 x.2.2.2.2.1))), (238, (AV.v (.int .i64 x.2.2.2.2.2.1))), (239, (AV.v (.int .i64 x.2.2.2.2.2.2)))] [] (F4_an 53).1.toks 0
  out := fun y => match y with
    | .inl y => (.ret, mkS 254 [(163, (AV.list 1 y.1 none)), (6, (AV.v (.bool y.2.1))), (164, (AV.v (.int .i64 y.2.2.1))), (165, (AV.v (.int .i64 y.2.2.2)))] [] (F4_an 53).2.toks 0)
    | .inr y => (.exit 4, mkS 254 [(163, (AV.list 1 y.1 none)), (164, (AV.v (.int .i64 y.2.1))), (165, (AV.v (.int .i64 y.2.2)))] [] (F4_an 53).2.toks 0)
  sp := fun y α k => match y with
    | .inl y => k (.ret, mkS 254 [(163, (AV.list 1 y.1 none)), (6, (AV.v (.bool y.2.1))), (164, (AV.v (.int .i64 y.2.2.1))), (165, (AV.v (.int .i64 y.2.2.2)))] [] (F4_an 53).2.toks 0)
    | .inr y => k (.exit 4, mkS 254 [(163, (AV.list 1 y.1 none)), (164, (AV.v (.int .i64 y.2.1))), (165, (AV.v (.int .i64 y.2.2)))] [] (F4_an 53).2.toks 0)
  spe := fun y α k => by rcases y with _ | _ <;> rfl
  b := fun x α kn ke => (match (decide (x.2.2.2.2.2.2 < x.2.2.2.2.2.1)) with | true => (if 0 ≤ x.2.2.2.2.2.2 then (match x.1[x.2.2.2.2.2.2.toNat]? with | some c104 => (match c104[0]? with | some x105 => (match x105 with | .v (.string s106) => (if 0 ≤ x.2.2.2.2.2.2 then (match x.2.1[x.2.2.2.2.2.2.toNat]? with | some c107 => (match c107[0]? with | some x108 => (match x108 with | .v (.string s109) => (match (!(s106.toList == s109.toList)) with | true => (ke (.inl (x.2.2.1, false, x.2.2.2.1, x.2.2.2.2.1))) | false => (kn (x.1, x.2.1, x.2.2.1, x.2.2.2.1, x.2.2.2.2.1, x.2.2.2.2.2.1, (i64 (x.2.2.2.2.2.2 + 1))))) | _ => none) | none => none) | none => none) else none) | _ => none) | none => none) | none => none) else none) | false => (ke (.inr (x.2.2.1, x.2.2.2.1, x.2.2.2.2.1))))
noncomputable abbrev F4_d53 (N : Nat) (x : (List (List AV)) × (List (List AV)) × (List (List AV)) × Int × Int × Int × Int) : Option (((List (List AV)) × Bool × Int × Int) ⊕ ((List (List AV)) × Int × Int)) := (F4_l53 N).L N x
noncomputable def F4_l34 (N : Nat) : LSpec where
  X := (List (List AV)) × Int × Int
  Y := (Bool) ⊕ (Unit)
  p := fun s => match s.env.length, s.nin, s.at 163, s.at 164, s.at 165 with
    | 254, 0, (AV.list 1 a0 none), (AV.v (.int .i64 a1)), (AV.v (.int .i64 a2)) => some (a0, a1, a2)
    | _, _, _, _, _ => none
  st := fun x => mkS 254 [(163, (AV.list 1 x.1 none)), (164, (AV.v (.int .i64 x.2.1))), (165, (AV.v (.int .i64 x.2.2)))] [] (F4_an 34).1.toks 0
  out := fun y => match y with
    | .inl y => (.ret, mkS 254 [(6, (AV.v (.bool y)))] [] (F4_an 34).2.toks 0)
    | .inr y => (.exit 2, mkS 254 [] [] (F4_an 34).2.toks 0)
  sp := fun y α k => match y with
    | .inl y => k (.ret, mkS 254 [(6, (AV.v (.bool y)))] [] (F4_an 34).2.toks 0)
    | .inr y => k (.exit 2, mkS 254 [] [] (F4_an 34).2.toks 0)
  spe := fun y α k => by rcases y with _ | _ <;> rfl
  b := fun x α kn ke => (match (decide (x.2.2 < x.2.1)) with | true => (if 0 ≤ x.2.2 then (match x.1[x.2.2.toNat]? with | some c94 => (match c94[0]? with | some x95 => (match x95 with | .v (.string s96) => (match F20_d N s96 with | some y97 => (match F21_d N s96 with | some y98 => (match F22_d N s96 with | some y99 => (match F23_d N s96 with | some y100 => (match F11_d N s96 with | some y101 => (match F24_d N s96 with | some y102 => (match (y97.2.2.2.2.2.2.2.2.2.2.2.2 != y98.2.2.2.2.2.2.2.2.2.2.2.2) with | true => (ke (.inl false)) | false => (match F25_d N (y97.1, y97.2.1, y97.2.2.1, y97.2.2.2.1, y97.2.2.2.2.1, y97.2.2.2.2.2.1, y97.2.2.2.2.2.2.1, y97.2.2.2.2.2.2.2.1, y97.2.2.2.2.2.2.2.2.1, y97.2.2.2.2.2.2.2.2.2.1, y97.2.2.2.2.2.2.2.2.2.2.1, y97.2.2.2.2.2.2.2.2.2.2.2.1, y98.1, y98.2.1, y98.2.2.1, y98.2.2.2.1, y98.2.2.2.2.1, y98.2.2.2.2.2.1, y98.2.2.2.2.2.2.1, y98.2.2.2.2.2.2.2.1, y98.2.2.2.2.2.2.2.2.1, y98.2.2.2.2.2.2.2.2.2.1, y98.2.2.2.2.2.2.2.2.2.2.1, y98.2.2.2.2.2.2.2.2.2.2.2.1) with | some y103 => (match (!y103) with | true => (ke (.inl false)) | false => (match (y99.1 != y100.1) with | true => (ke (.inl false)) | false => (match (y99.2 != y100.2) with | true => (ke (.inl false)) | false => (match (!(y101.2.1.toList == y102.2.1.toList)) with | true => (ke (.inl false)) | false => (match (y101.2.2 != y102.2.2) with | true => (ke (.inl false)) | false => (match ((y101.1.length : Int) != (y102.1.length : Int)) with | true => (ke (.inl false)) | false => (match F4_d53 N (y101.1, y102.1, x.1, x.2.1, x.2.2, (y101.1.length : Int), 0) with | some y110 => (match y110 with | .inl z111 => (ke (.inl z111.2.1)) | .inr z112 => (kn (z112.1, z112.2.1, (i64 (z112.2.2 + 1))))) | none => none))))))) | none => none)) | none => none) | none => none) | none => none) | none => none) | none => none) | none => none) | _ => none) | none => none) | none => none) else none) | false => (ke (.inr ())))
noncomputable abbrev F4_d34 (N : Nat) (x : (List (List AV)) × Int × Int) : Option ((Bool) ⊕ (Unit)) := (F4_l34 N).L N x
noncomputable def F4_l10 (N : Nat) : LSpec where
  X := (List (List AV)) × ByteArray × Int × Int × ByteArray × ByteArray × ByteArray × ByteArray × Int × Int × Int × Int × Int × Int × Int × (List (List AV)) × (List (List AV)) × Int
  Y := (ByteArray × Bool × ByteArray × ByteArray × ByteArray × ByteArray × Int × Int × Int × Int × Int × Int × Int × (List (List AV)) × (List (List AV)) × Int) ⊕ (ByteArray × ByteArray × ByteArray × ByteArray × ByteArray × Int × Int × Int × Int × Int × Int × Int × (List (List AV)) × (List (List AV)) × Int)
  p := fun s => match s.env.length, s.nin, s.at 65, s.at 1, s.at 7, s.at 8, s.at 66, s.at 67, s.bx 8, s.bx 57 with
    | 254, 0, (AV.list 12 a0 none), (AV.v (.string a1)), (AV.ptr 57 0), (AV.ptr 8 0), (AV.v (.int .i64 a2)), (AV.v (.int .i64 a3)), some [(AV.v (.string a4)), (AV.v (.string a5)), (AV.v (.string a6)), (AV.v (.string a7)), (AV.v (.int .i64 a8)), (AV.v (.int .i64 a9)), (AV.v (.int .i64 a10)), (AV.v (.int .i64 a11)), (AV.v (.int .i64 a12)), (AV.v (.int .i64 a13)), (AV.v (.int .i64 a14)), (AV.list 1 a15 none)], some [(AV.list 1 a16 none), (AV.v (.int .i64 a17))] => some (a0, a1, a2, a3, a4, a5, a6, a7, a8, a9, a10, a11, a12, a13, a14, a15, a16, a17)
    | _, _, _, _, _, _, _, _, _, _ => none
  st := fun x => mkS 254 [(65, (AV.list 12 x.1 none)), (1, (AV.v (.string x.2.1))), (7, (AV.ptr 57 0)), (8, (AV.ptr 8 0)), (66, (AV.v (.int .i64 x.2.2.1))), (67, (AV.v (.int .i64 x.2.2.2.1)))] [(8, [(AV.v (.string x.2.2.2.2.1)), (AV.v (.string x.2.2.2.2.2.1)), (AV.v (.string x.2.2.2.2.2.2.1)), (AV.v (.string x.2.2.2.2.2.2.2.1)), (AV.v (.int .i64 x.2.2.2.2.2.2.2.2.1)), (AV.v (.int .i64 x.2.2.2.2.2.2.2.2.2.1)), (AV.v (.int .i64 x.2.2.2.2.2.2.2.2.2.2.1)), (AV.v (.int .i64 x.2.2.2.2.2.2.2.2.2.2.2.1)), (AV.v (.int .i64 x.2.2.2.2.2.2.2.2.2.2.2.2.1)), (AV.v (.int .i64 x.2.2.2.2.2.2.2.2.2.2.2.2.2.1)), (AV.v (.int .i64 x.2.2.2.2.2.2.2.2.2.2.2.2.2.2.1)), (AV.list 1 x.2.2.2.2.2.2.2.2.2.2.2.2.2.2.2.1 none)]), (57, [(AV.list 1 x.2.2.2.2.2.2.2.2.2.2.2.2.2.2.2.2.1 none), (AV.v (.int .i64 x.2.2.2.2.2.2.2.2.2.2.2.2.2.2.2.2.2))])] (F4_an 10).1.toks 0
  out := fun y => match y with
    | .inl y => (.ret, mkS 254 [(1, (AV.v (.string y.1))), (6, (AV.v (.bool y.2.1))), (7, (AV.ptr 57 0)), (8, (AV.ptr 8 0))] [(8, [(AV.v (.string y.2.2.1)), (AV.v (.string y.2.2.2.1)), (AV.v (.string y.2.2.2.2.1)), (AV.v (.string y.2.2.2.2.2.1)), (AV.v (.int .i64 y.2.2.2.2.2.2.1)), (AV.v (.int .i64 y.2.2.2.2.2.2.2.1)), (AV.v (.int .i64 y.2.2.2.2.2.2.2.2.1)), (AV.v (.int .i64 y.2.2.2.2.2.2.2.2.2.1)), (AV.v (.int .i64 y.2.2.2.2.2.2.2.2.2.2.1)), (AV.v (.int .i64 y.2.2.2.2.2.2.2.2.2.2.2.1)), (AV.v (.int .i64 y.2.2.2.2.2.2.2.2.2.2.2.2.1)), (AV.list 1 y.2.2.2.2.2.2.2.2.2.2.2.2.2.1 none)]), (57, [(AV.list 1 y.2.2.2.2.2.2.2.2.2.2.2.2.2.2.1 none), (AV.v (.int .i64 y.2.2.2.2.2.2.2.2.2.2.2.2.2.2.2))])] (F4_an 10).2.toks 0)
    | .inr y => (.exit 0, mkS 254 [(1, (AV.v (.string y.1))), (7, (AV.ptr 57 0)), (8, (AV.ptr 8 0))] [(8, [(AV.v (.string y.2.1)), (AV.v (.string y.2.2.1)), (AV.v (.string y.2.2.2.1)), (AV.v (.string y.2.2.2.2.1)), (AV.v (.int .i64 y.2.2.2.2.2.1)), (AV.v (.int .i64 y.2.2.2.2.2.2.1)), (AV.v (.int .i64 y.2.2.2.2.2.2.2.1)), (AV.v (.int .i64 y.2.2.2.2.2.2.2.2.1)), (AV.v (.int .i64 y.2.2.2.2.2.2.2.2.2.1)), (AV.v (.int .i64 y.2.2.2.2.2.2.2.2.2.2.1)), (AV.v (.int .i64 y.2.2.2.2.2.2.2.2.2.2.2.1)), (AV.list 1 y.2.2.2.2.2.2.2.2.2.2.2.2.1 none)]), (57, [(AV.list 1 y.2.2.2.2.2.2.2.2.2.2.2.2.2.1 none), (AV.v (.int .i64 y.2.2.2.2.2.2.2.2.2.2.2.2.2.2))])] (F4_an 10).2.toks 0)
  sp := fun y α k => match y with
    | .inl y => k (.ret, mkS 254 [(1, (AV.v (.string y.1))), (6, (AV.v (.bool y.2.1))), (7, (AV.ptr 57 0)), (8, (AV.ptr 8 0))] [(8, [(AV.v (.string y.2.2.1)), (AV.v (.string y.2.2.2.1)), (AV.v (.string y.2.2.2.2.1)), (AV.v (.string y.2.2.2.2.2.1)), (AV.v (.int .i64 y.2.2.2.2.2.2.1)), (AV.v (.int .i64 y.2.2.2.2.2.2.2.1)), (AV.v (.int .i64 y.2.2.2.2.2.2.2.2.1)), (AV.v (.int .i64 y.2.2.2.2.2.2.2.2.2.1)), (AV.v (.int .i64 y.2.2.2.2.2.2.2.2.2.2.1)), (AV.v (.int .i64 y.2.2.2.2.2.2.2.2.2.2.2.1)), (AV.v (.int .i64 y.2.2.2.2.2.2.2.2.2.2.2.2.1)), (AV.list 1 y.2.2.2.2.2.2.2.2.2.2.2.2.2.1 none)]), (57, [(AV.list 1 y.2.2.2.2.2.2.2.2.2.2.2.2.2.2.1 none), (AV.v (.int .i64 y.2.2.2.2.2.2.2.2.2.2.2.2.2.2.2))])] (F4_an 10).2.toks 0)
    | .inr y => k (.exit 0, mkS 254 [(1, (AV.v (.string y.1))), (7, (AV.ptr 57 0)), (8, (AV.ptr 8 0))] [(8, [(AV.v (.string y.2.1)), (AV.v (.string y.2.2.1)), (AV.v (.string y.2.2.2.1)), (AV.v (.string y.2.2.2.2.1)), (AV.v (.int .i64 y.2.2.2.2.2.1)), (AV.v (.int .i64 y.2.2.2.2.2.2.1)), (AV.v (.int .i64 y.2.2.2.2.2.2.2.1)), (AV.v (.int .i64 y.2.2.2.2.2.2.2.2.1)), (AV.v (.int .i64 y.2.2.2.2.2.2.2.2.2.1)), (AV.v (.int .i64 y.2.2.2.2.2.2.2.2.2.2.1)), (AV.v (.int .i64 y.2.2.2.2.2.2.2.2.2.2.2.1)), (AV.list 1 y.2.2.2.2.2.2.2.2.2.2.2.2.1 none)]), (57, [(AV.list 1 y.2.2.2.2.2.2.2.2.2.2.2.2.2.1 none), (AV.v (.int .i64 y.2.2.2.2.2.2.2.2.2.2.2.2.2.2))])] (F4_an 10).2.toks 0)
  spe := fun y α k => by rcases y with _ | _ <;> rfl
  b := fun x α kn ke => (match (decide (x.2.2.2.1 < x.2.2.1)) with | true => (if 0 ≤ x.2.2.2.1 then (match x.1[x.2.2.2.1.toNat]? with | some c47 => (match c47[0]? with | some x48 => (match x48 with | .v (.string s49) => (match c47[1]? with | some x50 => (match x50 with | .v (.string s51) => (match c47[2]? with | some x52 => (match x52 with | .v (.string s53) => (match c47[3]? with | some x54 => (match x54 with | .v (.string s55) => (match c47[4]? with | some x56 => (match x56 with | .v (.int q58 n57) => (if q58 = .i64 then (match c47[5]? with | some x59 => (match x59 with | .v (.int q61 n60) => (if q61 = .i64 then (match c47[6]? with | some x62 => (match x62 with | .v (.int q64 n63) => (if q64 = .i64 then (match c47[7]? with | some x65 => (match x65 with | .v (.int q67 n66) => (if q67 = .i64 then (match c47[8]? with | some x68 => (match x68 with | .v (.int q70 n69) => (if q70 = .i64 then (match c47[9]? with | some x71 => (match x71 with | .v (.int q73 n72) => (if q73 = .i64 then (match c47[10]? with | some x74 => (match x74 with | .v (.int q76 n75) => (if q76 = .i64 then (match c47[11]? with | some x77 => (match lstOf 1 x77 with | some l78 => (match F13_d N (s49, s51, s53, s55, n57, n60, n63, n66, n69, n72, n75, l78) with | some y79 => (match F9_d N (s49, s51, s53, s55, n57, n60, n63, n66, n69, n72, n75, l78) with | some y80 => (match F14_d N (s49, s51, s53, s55, n57, n60, n63, n66, n69, n72, n75, l78) with | some y81 => (match F15_d N (s49, s51, s53, s55, n57, n60, n63, n66, n69, n72, n75, l78) with | some y82 => (match (!(y79.1.toList == y80.1.toList)) with | true => (ke (.inl (x.2.1, false, x.2.2.2.2.1, x.2.2.2.2.2.1, x.2.2.2.2.2.2.1, x.2.2.2.2.2.2.2.1, x.2.2.2.2.2.2.2.2.1, x.2.2.2.2.2.2.2.2.2.1, x.2.2.2.2.2.2.2.2.2.2.1, x.2.2.2.2.2.2.2.2.2.2.2.1, x.2.2.2.2.2.2.2.2.2.2.2.2.1, x.2.2.2.2.2.2.2.2.2.2.2.2.2.1, x.2.2.2.2.2.2.2.2.2.2.2.2.2.2.1, x.2.2.2.2.2.2.2.2.2.2.2.2.2.2.2.1, x.2.2.2.2.2.2.2.2.2.2.2.2.2.2.2.2.1, x.2.2.2.2.2.2.2.2.2.2.2.2.2.2.2.2.2))) | false => (match (y79.2 != y80.2) with | true => (ke (.inl (x.2.1, false, x.2.2.2.2.1, x.2.2.2.2.2.1, x.2.2.2.2.2.2.1, x.2.2.2.2.2.2.2.1, x.2.2.2.2.2.2.2.2.1, x.2.2.2.2.2.2.2.2.2.1, x.2.2.2.2.2.2.2.2.2.2.1, x.2.2.2.2.2.2.2.2.2.2.2.1, x.2.2.2.2.2.2.2.2.2.2.2.2.1, x.2.2.2.2.2.2.2.2.2.2.2.2.2.1, x.2.2.2.2.2.2.2.2.2.2.2.2.2.2.1, x.2.2.2.2.2.2.2.2.2.2.2.2.2.2.2.1, x.2.2.2.2.2.2.2.2.2.2.2.2.2.2.2.2.1, x.2.2.2.2.2.2.2.2.2.2.2.2.2.2.2.2.2))) | false => (match F16_d N (s49, s51, s53, s55, n57, n60, n63, n66, n69, n72, n75, l78) with | some y83 => (match F17_d N (s49, s51, s53, s55, n57, n60, n63, n66, n69, n72, n75, l78) with | some y84 => (match (!(y83 == y84)) with | true => (ke (.inl (x.2.1, false, x.2.2.2.2.1, x.2.2.2.2.2.1, x.2.2.2.2.2.2.1, x.2.2.2.2.2.2.2.1, x.2.2.2.2.2.2.2.2.1, x.2.2.2.2.2.2.2.2.2.1, x.2.2.2.2.2.2.2.2.2.2.1, x.2.2.2.2.2.2.2.2.2.2.2.1, x.2.2.2.2.2.2.2.2.2.2.2.2.1, x.2.2.2.2.2.2.2.2.2.2.2.2.2.1, x.2.2.2.2.2.2.2.2.2.2.2.2.2.2.1, x.2.2.2.2.2.2.2.2.2.2.2.2.2.2.2.1, x.2.2.2.2.2.2.2.2.2.2.2.2.2.2.2.2.1, x.2.2.2.2.2.2.2.2.2.2.2.2.2.2.2.2.2))) | false => (match (y81.2.2.2.2.2.2.2.2.2.2.2.2 != y82.2.2.2.2.2.2.2.2.2.2.2.2) with | true => (ke (.inl (x.2.1, false, x.2.2.2.2.1, x.2.2.2.2.2.1, x.2.2.2.2.2.2.1, x.2.2.2.2.2.2.2.1, x.2.2.2.2.2.2.2.2.1, x.2.2.2.2.2.2.2.2.2.1, x.2.2.2.2.2.2.2.2.2.2.1, x.2.2.2.2.2.2.2.2.2.2.2.1, x.2.2.2.2.2.2.2.2.2.2.2.2.1, x.2.2.2.2.2.2.2.2.2.2.2.2.2.1, x.2.2.2.2.2.2.2.2.2.2.2.2.2.2.1, x.2.2.2.2.2.2.2.2.2.2.2.2.2.2.2.1, x.2.2.2.2.2.2.2.2.2.2.2.2.2.2.2.2.1, x.2.2.2.2.2.2.2.2.2.2.2.2.2.2.2.2.2))) | false => (match F18_d N (y81.1, y81.2.1, y81.2.2.1, y81.2.2.2.1, y81.2.2.2.2.1, y81.2.2.2.2.2.1, y81.2.2.2.2.2.2.1, y81.2.2.2.2.2.2.2.1, y81.2.2.2.2.2.2.2.2.1, y81.2.2.2.2.2.2.2.2.2.1, y81.2.2.2.2.2.2.2.2.2.2.1, y81.2.2.2.2.2.2.2.2.2.2.2.1, y82.1, y82.2.1, y82.2.2.1, y82.2.2.2.1, y82.2.2.2.2.1, y82.2.2.2.2.2.1, y82.2.2.2.2.2.2.1, y82.2.2.2.2.2.2.2.1, y82.2.2.2.2.2.2.2.2.1, y82.2.2.2.2.2.2.2.2.2.1, y82.2.2.2.2.2.2.2.2.2.2.1, y82.2.2.2.2.2.2.2.2.2.2.2.1) with | some y85 => (match (!y85) with | true => (ke (.inl (x.2.1, false, x.2.2.2.2.1, x.2.2.2.2.2.1, x.2.2.2.2.2.2.1, x.2.2.2.2.2.2.2.1, x.2.2.2.2.2.2.2.2.1, x.2.2.2.2.2.2.2.2.2.1, x.2.2.2.2.2.2.2.2.2.2.1, x.2.2.2.2.2.2.2.2.2.2.2.1, x.2.2.2.2.2.2.2.2.2.2.2.2.1, x.2.2.2.2.2.2.2.2.2.2.2.2.2.1, x.2.2.2.2.2.2.2.2.2.2.2.2.2.2.1, x.2.2.2.2.2.2.2.2.2.2.2.2.2.2.2.1, x.2.2.2.2.2.2.2.2.2.2.2.2.2.2.2.2.1, x.2.2.2.2.2.2.2.2.2.2.2.2.2.2.2.2.2))) | false => (kn (x.1, x.2.1, x.2.2.1, (i64 (x.2.2.2.1 + 1)), x.2.2.2.2.1, x.2.2.2.2.2.1, x.2.2.2.2.2.2.1, x.2.2.2.2.2.2.2.1, x.2.2.2.2.2.2.2.2.1, x.2.2.2.2.2.2.2.2.2.1, x.2.2.2.2.2.2.2.2.2.2.1, x.2.2.2.2.2.2.2.2.2.2.2.1, x.2.2.2.2.2.2.2.2.2.2.2.2.1, x.2.2.2.2.2.2.2.2.2.2.2.2.2.1, x.2.2.2.2.2.2.2.2.2.2.2.2.2.2.1, x.2.2.2.2.2.2.2.2.2.2.2.2.2.2.2.1, x.2.2.2.2.2.2.2.2.2.2.2.2.2.2.2.2.1, x.2.2.2.2.2.2.2.2.2.2.2.2.2.2.2.2.2))) | none => none))) | none => none) | none => none))) | none => none) | none => none) | none => none) | none => none) | none => none) | none => none) else none) | _ => none) | none => none) else none) | _ => none) | none => none) else none) | _ => none) | none => none) else none) | _ => none) | none => none) else none) | _ => none) | none => none) else none) | _ => none) | none => none) else none) | _ => none) | none => none) | _ => none) | none => none) | _ => none) | none => none) | _ => none) | none => none) | _ => none) | none => none) | none => none) else none) | false => (ke (.inr (x.2.1, x.2.2.2.2.1, x.2.2.2.2.2.1, x.2.2.2.2.2.2.1, x.2.2.2.2.2.2.2.1, x.2.2.2.2.2.2.2.2.1, x.2.2.2.2.2.2.2.2.2.1, x.2.2.2.2.2.2.2.2.2.2.1, x.2.2.2.2.2.2.2.2.2.2.2.1, x.2.2.2.2.2.2.2.2.2.2.2.2.1, x.2.2.2.2.2.2.2.2.2.2.2.2.2.1, x.2.2.2.2.2.2.2.2.2.2.2.2.2.2.1, x.2.2.2.2.2.2.2.2.2.2.2.2.2.2.2.1, x.2.2.2.2.2.2.2.2.2.2.2.2.2.2.2.2.1, x.2.2.2.2.2.2.2.2.2.2.2.2.2.2.2.2.2))))
noncomputable abbrev F4_d10 (N : Nat) (x : (List (List AV)) × ByteArray × Int × Int × ByteArray × ByteArray × ByteArray × ByteArray × Int × Int × Int × Int × Int × Int × Int × (List (List AV)) × (List (List AV)) × Int) : Option ((ByteArray × Bool × ByteArray × ByteArray × ByteArray × ByteArray × Int × Int × Int × Int × Int × Int × Int × (List (List AV)) × (List (List AV)) × Int) ⊕ (ByteArray × ByteArray × ByteArray × ByteArray × ByteArray × Int × Int × Int × Int × Int × Int × Int × (List (List AV)) × (List (List AV)) × Int)) := (F4_l10 N).L N x
noncomputable def F4_s (N : Nat) : FSpec where
  X := (List (List AV)) × ByteArray × ByteArray × ByteArray × ByteArray × ByteArray × Int × Int × Int × Int × Int × Int × Int × (List (List AV))
  Y := Bool
  ash := [[some 1], [none], [none, none, none, none, none, none, none, none, none, none, none, some 1]]
  bsh := []
  S := ⟨[[none]], [], [], [], []⟩
  bm := false
  pat := fun a b => match a, b with
    | [(AV.list 1 a0 none), (AV.v (.string a1)), (AV.agg [(AV.v (.string a2)), (AV.v (.string a3)), (AV.v (.string a4)), (AV.v (.string a5)), (AV.v (.int .i64 a6)), (AV.v (.int .i64 a7)), (AV.v (.int .i64 a8)), (AV.v (.int .i64 a9)), (AV.v (.int .i64 a10)), (AV.v (.int .i64 a11)), (AV.v (.int .i64 a12)), (AV.list 1 a13 none)])], [] => some (a0, a1, a2, a3, a4, a5, a6, a7, a8, a9, a10, a11, a12, a13)
    | _, _ => none
  args := fun x => [(AV.list 1 x.1 none), (AV.v (.string x.2.1)), (AV.agg [(AV.v (.string x.2.2.1)), (AV.v (.string x.2.2.2.1)), (AV.v (.string x.2.2.2.2.1)), (AV.v (.string x.2.2.2.2.2.1)), (AV.v (.int .i64 x.2.2.2.2.2.2.1)), (AV.v (.int .i64 x.2.2.2.2.2.2.2.1)), (AV.v (.int .i64 x.2.2.2.2.2.2.2.2.1)), (AV.v (.int .i64 x.2.2.2.2.2.2.2.2.2.1)), (AV.v (.int .i64 x.2.2.2.2.2.2.2.2.2.2.1)), (AV.v (.int .i64 x.2.2.2.2.2.2.2.2.2.2.2.1)), (AV.v (.int .i64 x.2.2.2.2.2.2.2.2.2.2.2.2.1)), (AV.list 1 x.2.2.2.2.2.2.2.2.2.2.2.2.2 none)])]
  bs := fun x => []
  ret := fun y => ⟨(AV.v (.bool y)), [], none, [], [], []⟩
  t := fun x α k => (match F5_d N x.1 with | some y1 => (match (!y1) with | true => (match F6_d N () with | some y2 => (k y2) | none => none) | false => (match (decide ((x.2.1.size : Int) > 700)) with | true => (match F6_d N () with | some y3 => (k y3) | none => none) | false => (match (decide ((x.2.2.2.2.2.2.2.2.2.2.2.2.2.length : Int) > 300)) with | true => (match F6_d N () with | some y4 => (k y4) | none => none) | false => (match F7_d N x.1 with | some y5 => (match F10_d N (y5.1, y5.2) with | some y6 => (match F12_d N (y6.1, y6.2.1, y6.2.2.1, y6.2.2.2.1, y6.2.2.2.2.1, y6.2.2.2.2.2.1, y6.2.2.2.2.2.2.1, y6.2.2.2.2.2.2.2.1, y6.2.2.2.2.2.2.2.2.1, y6.2.2.2.2.2.2.2.2.2.1, y6.2.2.2.2.2.2.2.2.2.2.1, y6.2.2.2.2.2.2.2.2.2.2.2.1, y6.2.2.2.2.2.2.2.2.2.2.2.2.1, y6.2.2.2.2.2.2.2.2.2.2.2.2.2) with | some y7 => (match F4_d10 N ([[(AV.v (.string y6.1)), (AV.v (.string y6.2.1)), (AV.v (.string y6.2.2.1)), (AV.v (.string y6.2.2.2.1)), (AV.v (.int .i64 y6.2.2.2.2.1)), (AV.v (.int .i64 y6.2.2.2.2.2.1)), (AV.v (.int .i64 y6.2.2.2.2.2.2.1)), (AV.v (.int .i64 y6.2.2.2.2.2.2.2.1)), (AV.v (.int .i64 y6.2.2.2.2.2.2.2.2.1)), (AV.v (.int .i64 y6.2.2.2.2.2.2.2.2.2.1)), (AV.v (.int .i64 y6.2.2.2.2.2.2.2.2.2.2.1)), (AV.list 1 y6.2.2.2.2.2.2.2.2.2.2.2.1 none)], [(AV.v (.string y7.1)), (AV.v (.string y7.2.1)), (AV.v (.string y7.2.2.1)), (AV.v (.string y7.2.2.2.1)), (AV.v (.int .i64 y7.2.2.2.2.1)), (AV.v (.int .i64 y7.2.2.2.2.2.1)), (AV.v (.int .i64 y7.2.2.2.2.2.2.1)), (AV.v (.int .i64 y7.2.2.2.2.2.2.2.1)), (AV.v (.int .i64 y7.2.2.2.2.2.2.2.2.1)), (AV.v (.int .i64 y7.2.2.2.2.2.2.2.2.2.1)), (AV.v (.int .i64 y7.2.2.2.2.2.2.2.2.2.2.1)), (AV.list 1 y7.2.2.2.2.2.2.2.2.2.2.2.1 none)], [(AV.v (.string x.2.2.1)), (AV.v (.string x.2.2.2.1)), (AV.v (.string x.2.2.2.2.1)), (AV.v (.string x.2.2.2.2.2.1)), (AV.v (.int .i64 x.2.2.2.2.2.2.1)), (AV.v (.int .i64 x.2.2.2.2.2.2.2.1)), (AV.v (.int .i64 x.2.2.2.2.2.2.2.2.1)), (AV.v (.int .i64 x.2.2.2.2.2.2.2.2.2.1)), (AV.v (.int .i64 x.2.2.2.2.2.2.2.2.2.2.1)), (AV.v (.int .i64 x.2.2.2.2.2.2.2.2.2.2.2.1)), (AV.v (.int .i64 x.2.2.2.2.2.2.2.2.2.2.2.2.1)), (AV.list 1 x.2.2.2.2.2.2.2.2.2.2.2.2.2 none)]], x.2.1, ([[(AV.v (.string y6.1)), (AV.v (.string y6.2.1)), (AV.v (.string y6.2.2.1)), (AV.v (.string y6.2.2.2.1)), (AV.v (.int .i64 y6.2.2.2.2.1)), (AV.v (.int .i64 y6.2.2.2.2.2.1)), (AV.v (.int .i64 y6.2.2.2.2.2.2.1)), (AV.v (.int .i64 y6.2.2.2.2.2.2.2.1)), (AV.v (.int .i64 y6.2.2.2.2.2.2.2.2.1)), (AV.v (.int .i64 y6.2.2.2.2.2.2.2.2.2.1)), (AV.v (.int .i64 y6.2.2.2.2.2.2.2.2.2.2.1)), (AV.list 1 y6.2.2.2.2.2.2.2.2.2.2.2.1 none)], [(AV.v (.string y7.1)), (AV.v (.string y7.2.1)), (AV.v (.string y7.2.2.1)), (AV.v (.string y7.2.2.2.1)), (AV.v (.int .i64 y7.2.2.2.2.1)), (AV.v (.int .i64 y7.2.2.2.2.2.1)), (AV.v (.int .i64 y7.2.2.2.2.2.2.1)), (AV.v (.int .i64 y7.2.2.2.2.2.2.2.1)), (AV.v (.int .i64 y7.2.2.2.2.2.2.2.2.1)), (AV.v (.int .i64 y7.2.2.2.2.2.2.2.2.2.1)), (AV.v (.int .i64 y7.2.2.2.2.2.2.2.2.2.2.1)), (AV.list 1 y7.2.2.2.2.2.2.2.2.2.2.2.1 none)], [(AV.v (.string x.2.2.1)), (AV.v (.string x.2.2.2.1)), (AV.v (.string x.2.2.2.2.1)), (AV.v (.string x.2.2.2.2.2.1)), (AV.v (.int .i64 x.2.2.2.2.2.2.1)), (AV.v (.int .i64 x.2.2.2.2.2.2.2.1)), (AV.v (.int .i64 x.2.2.2.2.2.2.2.2.1)), (AV.v (.int .i64 x.2.2.2.2.2.2.2.2.2.1)), (AV.v (.int .i64 x.2.2.2.2.2.2.2.2.2.2.1)), (AV.v (.int .i64 x.2.2.2.2.2.2.2.2.2.2.2.1)), (AV.v (.int .i64 x.2.2.2.2.2.2.2.2.2.2.2.2.1)), (AV.list 1 x.2.2.2.2.2.2.2.2.2.2.2.2.2 none)]].length : Int), 0, y6.1, y6.2.1, y6.2.2.1, y6.2.2.2.1, y6.2.2.2.2.1, y6.2.2.2.2.2.1, y6.2.2.2.2.2.2.1, y6.2.2.2.2.2.2.2.1, y6.2.2.2.2.2.2.2.2.1, y6.2.2.2.2.2.2.2.2.2.1, y6.2.2.2.2.2.2.2.2.2.2.1, y6.2.2.2.2.2.2.2.2.2.2.2.1, y7.2.2.2.2.2.2.2.2.2.2.2.2.1, y7.2.2.2.2.2.2.2.2.2.2.2.2.2) with | some y86 => (match y86 with | .inl z87 => (k z87.2.1) | .inr z88 => (match F9_d N (z88.2.1, z88.2.2.1, z88.2.2.2.1, z88.2.2.2.2.1, z88.2.2.2.2.2.1, z88.2.2.2.2.2.2.1, z88.2.2.2.2.2.2.2.1, z88.2.2.2.2.2.2.2.2.1, z88.2.2.2.2.2.2.2.2.2.1, z88.2.2.2.2.2.2.2.2.2.2.1, z88.2.2.2.2.2.2.2.2.2.2.2.1, z88.2.2.2.2.2.2.2.2.2.2.2.2.1) with | some y89 => (match F8_d N ((y89.1.size : Int), z88.2.2.2.2.2.2.2.2.2.2.2.2.2.1, z88.2.2.2.2.2.2.2.2.2.2.2.2.2.2) with | some y90 => (if 0 ≤ y90.1 ∧ y90.1 ≤ y89.1.size then (match F8_d N (256, y90.2.1, y90.2.2) with | some y91 => (match numsOf ([[(AV.v (.int .u8 (IntKind.u8.wrap y91.1)))]]) with | some s92 => (if (y89.1.extract 0 y90.1.toNat).size + (strOfNums s92).size ≤ 9223372036854775807 then (if 0 ≤ (i64 (y90.1 + 1)) ∧ (i64 (y90.1 + 1)) ≤ y89.1.size then (if ((y89.1.extract 0 y90.1.toNat) ++ (strOfNums s92)).size + (y89.1.extract (i64 (y90.1 + 1)).toNat y89.1.size).size ≤ 9223372036854775807 then (match (decide (((((y89.1.extract 0 y90.1.toNat) ++ (strOfNums s92)) ++ (y89.1.extract (i64 (y90.1 + 1)).toNat y89.1.size)).size : Int) > 4)) with | true => (if 0 ≤ (i64 (((((y89.1.extract 0 y90.1.toNat) ++ (strOfNums s92)) ++ (y89.1.extract (i64 (y90.1 + 1)).toNat y89.1.size)).size : Int) - 4)) ∧ (i64 (((((y89.1.extract 0 y90.1.toNat) ++ (strOfNums s92)) ++ (y89.1.extract (i64 (y90.1 + 1)).toNat y89.1.size)).size : Int) - 4)) ≤ (((y89.1.extract 0 y90.1.toNat) ++ (strOfNums s92)) ++ (y89.1.extract (i64 (y90.1 + 1)).toNat y89.1.size)).size then (match F19_d N ((((y89.1.extract 0 y90.1.toNat) ++ (strOfNums s92)) ++ (y89.1.extract (i64 (y90.1 + 1)).toNat y89.1.size)).extract 0 (i64 (((((y89.1.extract 0 y90.1.toNat) ++ (strOfNums s92)) ++ (y89.1.extract (i64 (y90.1 + 1)).toNat y89.1.size)).size : Int) - 4)).toNat) with | some y93 => (if 0 ≤ y90.1 ∧ y90.1 ≤ y89.1.size then (if y89.1.size + (⟨#[120]⟩ : ByteArray).size ≤ 9223372036854775807 then (if y89.1.size + z88.1.size ≤ 9223372036854775807 then (match F4_d34 N ([[(AV.v (.string y89.1))], [(AV.v (.string (((y89.1.extract 0 y90.1.toNat) ++ (strOfNums s92)) ++ (y89.1.extract (i64 (y90.1 + 1)).toNat y89.1.size))))], [(AV.v (.string y93))], [(AV.v (.string (y89.1.extract 0 y90.1.toNat)))], [(AV.v (.string (y89.1 ++ (⟨#[120]⟩ : ByteArray))))], [(AV.v (.string z88.1))], [(AV.v (.string (y89.1 ++ z88.1)))]], ([[(AV.v (.string y89.1))], [(AV.v (.string (((y89.1.extract 0 y90.1.toNat) ++ (strOfNums s92)) ++ (y89.1.extract (i64 (y90.1 + 1)).toNat y89.1.size))))], [(AV.v (.string y93))], [(AV.v (.string (y89.1.extract 0 y90.1.toNat)))], [(AV.v (.string (y89.1 ++ (⟨#[120]⟩ : ByteArray))))], [(AV.v (.string z88.1))], [(AV.v (.string (y89.1 ++ z88.1)))]].length : Int), 0) with | some y113 => (match y113 with | .inl z114 => (k z114) | .inr z115 => (match F6_d N () with | some y116 => (k y116) | none => none)) | none => none) else none) else none) else none) | none => none) else none) | false => (if 0 ≤ y90.1 ∧ y90.1 ≤ y89.1.size then (if y89.1.size + (⟨#[120]⟩ : ByteArray).size ≤ 9223372036854775807 then (if y89.1.size + z88.1.size ≤ 9223372036854775807 then (match F4_d34 N ([[(AV.v (.string y89.1))], [(AV.v (.string (((y89.1.extract 0 y90.1.toNat) ++ (strOfNums s92)) ++ (y89.1.extract (i64 (y90.1 + 1)).toNat y89.1.size))))], [(AV.v (.string (((y89.1.extract 0 y90.1.toNat) ++ (strOfNums s92)) ++ (y89.1.extract (i64 (y90.1 + 1)).toNat y89.1.size))))], [(AV.v (.string (y89.1.extract 0 y90.1.toNat)))], [(AV.v (.string (y89.1 ++ (⟨#[120]⟩ : ByteArray))))], [(AV.v (.string z88.1))], [(AV.v (.string (y89.1 ++ z88.1)))]], ([[(AV.v (.string y89.1))], [(AV.v (.string (((y89.1.extract 0 y90.1.toNat) ++ (strOfNums s92)) ++ (y89.1.extract (i64 (y90.1 + 1)).toNat y89.1.size))))], [(AV.v (.string (((y89.1.extract 0 y90.1.toNat) ++ (strOfNums s92)) ++ (y89.1.extract (i64 (y90.1 + 1)).toNat y89.1.size))))], [(AV.v (.string (y89.1.extract 0 y90.1.toNat)))], [(AV.v (.string (y89.1 ++ (⟨#[120]⟩ : ByteArray))))], [(AV.v (.string z88.1))], [(AV.v (.string (y89.1 ++ z88.1)))]].length : Int), 0) with | some y117 => (match y117 with | .inl z118 => (k z118) | .inr z119 => (match F6_d N () with | some y120 => (k y120) | none => none)) | none => none) else none) else none) else none)) else none) else none) else none) | none => none) | none => none) else none) | none => none) | none => none)) | none => none) | none => none) | none => none) | none => none)))) | none => none)
noncomputable abbrev F4_d (N : Nat) (x : (List (List AV)) × ByteArray × ByteArray × ByteArray × ByteArray × ByteArray × Int × Int × Int × Int × Int × Int × Int × (List (List AV))) : Option (Bool) := (F4_s N).d x
theorem F4_par53 (N : Nat) : Par (F4_l53 N).b := by
  intro x α β kn ke kn' ke' r r' h h1 h2
  revert h
  dsimp only [F4_l53]
  (repeat' (first | (with_reducible refine par_ite ?_ ?_) | (with_reducible refine par_both ?_ ?_) | split)) <;> intro h <;> first | exact h1 _ h | exact h2 _ h | (cases h; done)
theorem F4_body53 (N : Nat) (x : (F4_l53 N).X) (α : Type) (kn : AS → Option α) (ke : Out → Option α) : around (tabOf Tryz.prog) (F4_g N) F4_an (lam N [(10, F4_l10 N), (34, F4_l34 N), (53, F4_l53 N)]) 53 (bodyOf (nthLoop 53 (Tryz.f4.body.getD .skip))) ((F4_l53 N).st x) kn ke = (F4_l53 N).b x α (fun x' => kn ((F4_l53 N).st x')) (fun y => (F4_l53 N).sp y α ke) := by kernel_rfl
theorem F4_pat53 (N : Nat) (s : AS) (x : (F4_l53 N).X) (hc : s = canon (F4_an 53).1 s) (h : (F4_l53 N).p s = some x) : s = (F4_l53 N).st x := by
  dsimp only [F4_l53] at h
  split at h
  · cases h
    exact canon_mk hc ‹_› ‹_› rfl rfl rfl ⟨‹_›, ‹_›, ‹_›, ‹_›, ‹_›, ‹_›, ‹_›, trivial⟩ trivial
  · cases h
theorem F4_loop53 (N : Nat) : ∀ s o, s = canon (F4_an 53).1 s → (lam N [(10, F4_l10 N), (34, F4_l34 N), (53, F4_l53 N)]).v 53 s = some o → LoopSem Tryz.prog (nthLoop 53 (Tryz.f4.body.getD .skip)) s o :=
  loop_ok (tabOf_ok Tryz.prog) (gam_ok _) mixed F4_an N [(10, F4_l10 N), (34, F4_l34 N), (53, F4_l53 N)] 53 (bodyOf (nthLoop 53 (Tryz.f4.body.getD .skip))) (nthLoop 53 (Tryz.f4.body.getD .skip)) (by kernel_rfl) (by
    have e : actOf F4_an (bodyOf (nthLoop 53 (Tryz.f4.body.getD .skip))) (53 + 1) = [] := by kernel_rfl
    rw [e]
    intro p hp
    cases hp) (F4_l53 N) rfl (fun s x hc h => F4_pat53 N s x hc h) (fun x => rfl) (fun x α kn ke => (F4_body53 N x α kn ke).trans (congrArg ((F4_l53 N).b x α _) (funext fun y => (F4_l53 N).spe y α ke))) (F4_par53 N)
theorem F4_par34 (N : Nat) : Par (F4_l34 N).b := by
  intro x α β kn ke kn' ke' r r' h h1 h2
  revert h
  dsimp only [F4_l34]
  (repeat' (first | (with_reducible refine par_ite ?_ ?_) | (with_reducible refine par_both ?_ ?_) | split)) <;> intro h <;> first | exact h1 _ h | exact h2 _ h | (cases h; done)
theorem F4_body34 (N : Nat) (x : (F4_l34 N).X) (α : Type) (kn : AS → Option α) (ke : Out → Option α) : around (tabOf Tryz.prog) (F4_g N) F4_an (lam N [(10, F4_l10 N), (34, F4_l34 N), (53, F4_l53 N)]) 34 (bodyOf (nthLoop 34 (Tryz.f4.body.getD .skip))) ((F4_l34 N).st x) kn ke = (F4_l34 N).b x α (fun x' => kn ((F4_l34 N).st x')) (fun y => (F4_l34 N).sp y α ke) := by kernel_rfl
theorem F4_pat34 (N : Nat) (s : AS) (x : (F4_l34 N).X) (hc : s = canon (F4_an 34).1 s) (h : (F4_l34 N).p s = some x) : s = (F4_l34 N).st x := by
  dsimp only [F4_l34] at h
  split at h
  · cases h
    exact canon_mk hc ‹_› ‹_› rfl rfl rfl ⟨‹_›, ‹_›, ‹_›, trivial⟩ trivial
  · cases h
theorem F4_loop34 (N : Nat) : ∀ s o, s = canon (F4_an 34).1 s → (lam N [(10, F4_l10 N), (34, F4_l34 N), (53, F4_l53 N)]).v 34 s = some o → LoopSem Tryz.prog (nthLoop 34 (Tryz.f4.body.getD .skip)) s o :=
  loop_ok (tabOf_ok Tryz.prog) (gam_ok _) mixed F4_an N [(10, F4_l10 N), (34, F4_l34 N), (53, F4_l53 N)] 34 (bodyOf (nthLoop 34 (Tryz.f4.body.getD .skip))) (nthLoop 34 (Tryz.f4.body.getD .skip)) (by kernel_rfl) (by
    have e : actOf F4_an (bodyOf (nthLoop 34 (Tryz.f4.body.getD .skip))) (34 + 1) = [(53, nthLoop 53 (Tryz.f4.body.getD .skip))] := by kernel_rfl
    rw [e]
    intro p hp
    rcases List.mem_cons.1 hp with rfl | hp
    · exact F4_loop53 N
    cases hp) (F4_l34 N) rfl (fun s x hc h => F4_pat34 N s x hc h) (fun x => rfl) (fun x α kn ke => (F4_body34 N x α kn ke).trans (congrArg ((F4_l34 N).b x α _) (funext fun y => (F4_l34 N).spe y α ke))) (F4_par34 N)
theorem F4_par10 (N : Nat) : Par (F4_l10 N).b := by
  intro x α β kn ke kn' ke' r r' h h1 h2
  revert h
  dsimp only [F4_l10]
  (repeat' (first | (with_reducible refine par_ite ?_ ?_) | (with_reducible refine par_both ?_ ?_) | split)) <;> intro h <;> first | exact h1 _ h | exact h2 _ h | (cases h; done)
theorem F4_body10 (N : Nat) (x : (F4_l10 N).X) (α : Type) (kn : AS → Option α) (ke : Out → Option α) : around (tabOf Tryz.prog) (F4_g N) F4_an (lam N [(10, F4_l10 N), (34, F4_l34 N), (53, F4_l53 N)]) 10 (bodyOf (nthLoop 10 (Tryz.f4.body.getD .skip))) ((F4_l10 N).st x) kn ke = (F4_l10 N).b x α (fun x' => kn ((F4_l10 N).st x')) (fun y => (F4_l10 N).sp y α ke) := by kernel_rfl
theorem F4_pat10 (N : Nat) (s : AS) (x : (F4_l10 N).X) (hc : s = canon (F4_an 10).1 s) (h : (F4_l10 N).p s = some x) : s = (F4_l10 N).st x := by
  dsimp only [F4_l10] at h
  split at h
  · cases h
    exact canon_mk hc ‹_› ‹_› rfl rfl rfl ⟨‹_›, ‹_›, ‹_›, ‹_›, ‹_›, ‹_›, trivial⟩ ⟨‹_›, ‹_›, trivial⟩
  · cases h
theorem F4_loop10 (N : Nat) : ∀ s o, s = canon (F4_an 10).1 s → (lam N [(10, F4_l10 N), (34, F4_l34 N), (53, F4_l53 N)]).v 10 s = some o → LoopSem Tryz.prog (nthLoop 10 (Tryz.f4.body.getD .skip)) s o :=
  loop_ok (tabOf_ok Tryz.prog) (gam_ok _) mixed F4_an N [(10, F4_l10 N), (34, F4_l34 N), (53, F4_l53 N)] 10 (bodyOf (nthLoop 10 (Tryz.f4.body.getD .skip))) (nthLoop 10 (Tryz.f4.body.getD .skip)) (by kernel_rfl) (by
    have e : actOf F4_an (bodyOf (nthLoop 10 (Tryz.f4.body.getD .skip))) (10 + 1) = [] := by kernel_rfl
    rw [e]
    intro p hp
    cases hp) (F4_l10 N) rfl (fun s x hc h => F4_pat10 N s x hc h) (fun x => rfl) (fun x α kn ke => (F4_body10 N x α kn ke).trans (congrArg ((F4_l10 N).b x α _) (funext fun y => (F4_l10 N).spe y α ke))) (F4_par10 N)
theorem F4_parF (N : Nat) : ParF (F4_s N).t := by
  intro x α β k k' r r' h h1
  revert h
  dsimp only [F4_s]
  (repeat' (first | (with_reducible refine par_ite ?_ ?_) | (with_reducible refine par_both ?_ ?_) | split)) <;> intro h <;> first | exact h1 _ h | (cases h; done)
theorem F4_text (N : Nat) (x : (F4_s N).X) : acall (tabOf Tryz.prog) (F4_g N) F4_an (lam N [(10, F4_l10 N), (34, F4_l34 N), (53, F4_l53 N)]) Tryz.f4 (F4_s N).S ((F4_s N).args x) ((F4_s N).bs x) = (F4_s N).t x Ret (fun y => some ((F4_s N).ret y)) := by kernel_rfl
theorem F4_pat (N : Nat) (a : List AV) (b : List (List AV)) (x : (F4_s N).X) (h : (F4_s N).pat a b = some x) : a = (F4_s N).args x ∧ b = (F4_s N).bs x := by
  dsimp only [F4_s] at h
  split at h
  · cases h; exact ⟨rfl, rfl⟩
  · cases h
noncomputable def F4_e (N : Nat) : Ent Tryz.prog := entOf (tabOf_ok Tryz.prog) (gam_ok _) mixed 4 Tryz.f4 Tryz.func4 rfl F4_an (lam N [(10, F4_l10 N), (34, F4_l34 N), (53, F4_l53 N)]) (by
    have e : actOf F4_an (Tryz.f4.body.getD .skip) 0 = [(10, nthLoop 10 (Tryz.f4.body.getD .skip)), (34, nthLoop 34 (Tryz.f4.body.getD .skip)), (53, nthLoop 53 (Tryz.f4.body.getD .skip))] := by kernel_rfl
    rw [e]
    intro p hp
    rcases List.mem_cons.1 hp with rfl | hp
    · exact F4_loop10 N
    rcases List.mem_cons.1 hp with rfl | hp
    · exact F4_loop34 N
    rcases List.mem_cons.1 hp with rfl | hp
    · exact F4_loop53 N
    cases hp) (F4_s N) (fun _ => ⟨rfl, rfl⟩) (F4_text N) (F4_pat N) (F4_parF N)
end Go.Proofs.YtdmedeaknnldcaaGreatDoor
