/- Several texts as one (written by pack.py). -/
import Derived.Test.YthdgnfcbehcplaaGreatDoorCkC
set_option linter.unusedVariables false
set_option linter.unusedSimpArgs false
set_option linter.unnecessarySimpa false
section
namespace Go.Proofs.YthdgnfcbehcplaaGreatDoor
noncomputable section
open Go.RowKit
set_option maxRecDepth 4000
set_option maxHeartbeats 4000000
def zm8 : Nat -> Keep × Keep := anL []
def zAF (N : Nat) : GamK := gam (P := qP) []
def zgo (N : Nat) : FSpec where
 X := ByteArray × ByteArray
 Y := Int
 ash := [[none], [none]]
 S := ⟨[[none]], [], [], [], []⟩
 pat := fun a b => rdA [.str, .str] [] a b fun ⟨a0, a1, _⟩ _ => (a0, a1)
 args := fun x => [(AV.v (.string x.1)), (AV.v (.string x.2))]
 ret := fun y => ⟨(AV.v (.int .i64 y)), [], none, [], [], [], none⟩
 t := fun x α k => (match (Go.Op.bytesLess x.1.toList x.2.toList) with | true => (k (-1)) | false => (match (!((Go.Op.bytesLess x.1.toList x.2.toList) || (x.1.toList == x.2.toList))) with | true => (k 1) | false => (k 0)))
abbrev ziX (N : Nat) (x : ByteArray × ByteArray) : Option (Int) := (zgo N).d x
theorem zm9 (N : Nat) : Zc (zgo N).t := by
 intro x α β k k' r r' h h1
 revert h
 dsimp only [zgo]
 (repeat' (first | (with_reducible refine ze ?_ ?_) | split)) <;> intro h <;> first | exact h1 _ h | cases h
theorem zna (N : Nat) : Ze (zn qP) (zAF N) zm8 (lam N []) Tryz.f114 (zgo N) := fun x => by kernel_rfl
def zAE (N : Nat) : Ent qP := zx (zd qP) (zi _) zl 114 Tryz.f114 Tryz.func114 rfl zm8 (lam N []) (zm (l := []) an (by kernel_rfl)) (zgo N) (fun _ => ⟨rfl, rfl⟩) (zna N) (fun _ _ _ h => zu h (fun _ _ => rfl) (fun _ _ => rfl)) (zm9 N)
abbrev RK4 : List Ck := [.int .i64, .int .i64, .int .i64, .int .i64]
abbrev RT4 : Type := Int × Int × Int × Int × Unit
def Ren4 (e : RT4) : List AV := enc RK4 e
def J5 : Nat -> Keep × Keep := anL [(4, qK [27, 28] [] [], qK [4] [] [])]
def zv0 (N : Nat) : GamK := gam (P := qP) [zAE N]
def zaO (N : Nat) : LSpec where
 X := RT4 × Int
 Y := (Int) ⊕ (Unit)
 p := fun s => rdS 35 0 [(27, .agg RK4), (28, .int .i64)] [] s fun ⟨a0, a1, _⟩ _ => (a0, a1)
 st := fun u4 => mkS 35 [(27, (AV.agg (Ren4 u4.1))), (28, (qI u4.2))] [] (J5 4).1.toks 0
 out := fun y => match y with
  | .inl y => (.ret, mkS 35 [(4, (qI y))] [] (J5 4).2.toks 0)
  | .inr y => (.exit 0, mkS 35 [] [] (J5 4).2.toks 0)
 b := fun u4 α kn ke => (match (decide (u4.2 < 4)) with | true => (if 0 <= u4.2 /\ u4.2 < 4 then (match [(AV.v (.int .i64 u4.1.1)), (AV.v (.int .i64 u4.1.2.1)), (AV.v (.int .i64 u4.1.2.2.1)), (AV.v (.int .i64 u4.1.2.2.2.1))][(u4.2.toNat * 1)]? with | some x5 => (match x5 with | .v (.int q7 n6) => (if q7 = .i64 then (match (n6 != 0) with | true => (ke (.inl n6)) | false => (kn (u4.1, (i64 (u4.2 + 1))))) else none) | _ => none) | none => none) else none) | false => (ke (.inr ())))
abbrev zxM (N : Nat) (x : RT4 × Int) : Option ((Int) ⊕ (Unit)) := (zaO N).L N x
def zgi (N : Nat) : FSpec where
 X := RT2 × RT2
 Y := Int
 ash := [[none, none, none, none], [none, none, none, none]]
 S := ⟨[[none]], [], [], [], []⟩
 pat := fun a b => rdA [.agg RK2, .agg RK2] [] a b fun ⟨a0, a1, _⟩ _ => (a0, a1)
 args := fun x => [(AV.agg (zB1 x.1)), (AV.agg (zB1 x.2))]
 ret := fun y => ⟨(AV.v (.int .i64 y)), [], none, [], [], [], none⟩
 t := fun x α k => (match ziX N (x.1.1, x.2.1) with | some y1 => (match ziX N (x.1.2.1, x.2.2.1) with | some y2 => (match ziX N (x.1.2.2.1, x.2.2.2.1) with | some y3 => (match ziX N (x.1.2.2.2.1, x.2.2.2.2.1) with | some y4 => (match zxM N ((y1, y2, y3, y4, ()), 0) with | some y8 => (match y8 with | .inl z9 => (k z9) | .inr z10 => (k 0)) | none => none) | none => none) | none => none) | none => none) | none => none)
abbrev zAp (N : Nat) (x : RT2 × RT2) : Option (Int) := (zgi N).d x
def zcR (N : Nat) : List (Nat × LSpec) := [(4, zaO N)]
def ziS : Code := Tryz.f106.body.getD .skip
theorem zmH (N : Nat) : Par (zaO N).b := by
 intro x α β kn ke kn' ke' r r' h h1 h2
 revert h
 dsimp only [zaO]
 (repeat' (first | (with_reducible refine ze ?_ ?_) | split)) <;> intro h <;> first | exact h1 _ h | exact h2 _ h | cases h
theorem zkc (N : Nat) : je (zn qP) (zv0 N) J5 N (zcR N) 4 ziS (zaO N) := fun x α kn ke => by kernel_rfl
theorem zkd (N : Nat) : ZE qP J5 N (zcR N) 4 (zc 4 ziS) :=
 zC (zd qP) (zi _) zl J5 N (zcR N) 4 ziS (l := []) (by kernel_rfl) (by kernel_rfl) an (zaO N) rfl (fun s x hc h => by dsimp only [zaO] at h; exact zI hc h (fun _ _ => rfl) rfl rfl rfl) (fun _ => rfl) (zkc N) (zmH N)
theorem zmI (N : Nat) : Zc (zgi N).t := by
 intro x α β k k' r r' h h1
 revert h
 dsimp only [zgi]
 (repeat' (first | (with_reducible refine ze ?_ ?_) | split)) <;> intro h <;> first | exact h1 _ h | cases h
theorem zmJ (N : Nat) : Ze (zn qP) (zv0 N) J5 (lam N (zcR N)) Tryz.f106 (zgi N) := fun x => by kernel_rfl
def zAq (N : Nat) : Ent qP := zx (zd qP) (zi _) zl 106 Tryz.f106 Tryz.func106 rfl J5 (lam N (zcR N)) (zm (l := [(4, zc 4 ziS)]) (al (zkd N) an) (by kernel_rfl)) (zgi N) (fun _ => ⟨rfl, rfl⟩) (zmJ N) (fun _ _ _ h => zu h (fun _ _ => rfl) (fun _ _ => rfl)) (zmI N)
abbrev RK5 : List Ck := [.int .i64, .int .i64, .int .i64, .int .i64, .int .i64, .int .i64, .int .i64, .int .i64, .int .i64, .int .i64]
abbrev RT5 : Type := Int × Int × Int × Int × Int × Int × Int × Int × Int × Int × Unit
def Ren5 (e : RT5) : List AV := enc RK5 e
def zb5 : Nat -> Keep × Keep := anL [(9, qK [41, 42] [] [], qK [4] [] [])]
def zBU (N : Nat) : GamK := gam (P := qP) [zAq N]
def zdh (N : Nat) : LSpec where
 X := RT5 × Int
 Y := (Int) ⊕ (Unit)
 p := fun s => rdS 56 0 [(41, .agg RK5), (42, .int .i64)] [] s fun ⟨a0, a1, _⟩ _ => (a0, a1)
 st := fun u9 => mkS 56 [(41, (AV.agg (Ren5 u9.1))), (42, (qI u9.2))] [] (zb5 9).1.toks 0
 out := fun y => match y with
  | .inl y => (.ret, mkS 56 [(4, (qI y))] [] (zb5 9).2.toks 0)
  | .inr y => (.exit 0, mkS 56 [] [] (zb5 9).2.toks 0)
 b := fun u9 α kn ke => (match (decide (u9.2 < 5)) with | true => (if 0 <= u9.2 /\ u9.2 < 5 then (match ([(AV.v (.int .i64 u9.1.1)), (AV.v (.int .i64 u9.1.2.1)), (AV.v (.int .i64 u9.1.2.2.1)), (AV.v (.int .i64 u9.1.2.2.2.1)), (AV.v (.int .i64 u9.1.2.2.2.2.1)), (AV.v (.int .i64 u9.1.2.2.2.2.2.1)), (AV.v (.int .i64 u9.1.2.2.2.2.2.2.1)), (AV.v (.int .i64 u9.1.2.2.2.2.2.2.2.1)), (AV.v (.int .i64 u9.1.2.2.2.2.2.2.2.2.1)), (AV.v (.int .i64 u9.1.2.2.2.2.2.2.2.2.2.1))].drop (u9.2.toNat * 2)) with | x2 :: r3 => (match x2 with | .v (.int q5 n4) => (if q5 = .i64 then (match r3 with | x6 :: r7 => (match x6 with | .v (.int q9 n8) => (if q9 = .i64 then (match (decide (n4 < n8)) with | true => (ke (.inl (-1))) | false => (match (decide (n4 > n8)) with | true => (ke (.inl 1)) | false => (kn (u9.1, (i64 (u9.2 + 1)))))) else none) | _ => none) | [] => none) else none) | _ => none) | [] => none) else none) | false => (ke (.inr ())))
abbrev zBS (N : Nat) (x : RT5 × Int) : Option ((Int) ⊕ (Unit)) := (zdh N).L N x
def zpT (N : Nat) : FSpec where
 X := RT1 × RT1
 Y := Int
 ash := [[none, none, none, none, none, none, none, none, none], [none, none, none, none, none, none, none, none, none]]
 S := ⟨[[none]], [], [], [], []⟩
 pat := fun a b => rdA [.agg RK1, .agg RK1] [] a b fun ⟨a0, a1, _⟩ _ => (a0, a1)
 args := fun x => [(AV.agg (zy x.1)), (AV.agg (zy x.2))]
 ret := fun y => ⟨(AV.v (.int .i64 y)), [], none, [], [], [], none⟩
 t := fun x α k => (match zAp N ((zfD x.1), (zfD x.2)) with | some y1 => (match (y1 != 0) with | true => (k y1) | false => (match zBS N ((x.1.2.2.2.2.1, x.2.2.2.2.2.1, x.1.2.2.2.2.2.1, x.2.2.2.2.2.2.1, x.1.2.2.2.2.2.2.1, x.2.2.2.2.2.2.2.1, x.1.2.2.2.2.2.2.2.1, x.2.2.2.2.2.2.2.2.1, x.1.2.2.2.2.2.2.2.2.1, x.2.2.2.2.2.2.2.2.2.1, ()), 0) with | some y10 => (match y10 with | .inl z11 => (k z11) | .inr z12 => (k 0)) | none => none)) | none => none)
abbrev zBR (N : Nat) (x : RT1 × RT1) : Option (Int) := (zpT N).d x
def zgS (N : Nat) : List (Nat × LSpec) := [(9, zdh N)]
def zut : Code := Tryz.f94.body.getD .skip
theorem zuu (N : Nat) : Par (zdh N).b := by
 intro x α β kn ke kn' ke' r r' h h1 h2
 revert h
 dsimp only [zdh]
 (repeat' (first | (with_reducible refine ze ?_ ?_) | split)) <;> intro h <;> first | exact h1 _ h | exact h2 _ h | cases h
theorem zpR (N : Nat) : je (zn qP) (zBU N) zb5 N (zgS N) 9 zut (zdh N) := fun x α kn ke => by kernel_rfl
theorem zpS (N : Nat) : ZE qP zb5 N (zgS N) 9 (zc 9 zut) :=
 zC (zd qP) (zi _) zl zb5 N (zgS N) 9 zut (l := []) (by kernel_rfl) (by kernel_rfl) an (zdh N) rfl (fun s x hc h => by dsimp only [zdh] at h; exact zI hc h (fun _ _ => rfl) rfl rfl rfl) (fun _ => rfl) (zpR N) (zuu N)
theorem zuv (N : Nat) : Zc (zpT N).t := by
 intro x α β k k' r r' h h1
 revert h
 dsimp only [zpT]
 (repeat' (first | (with_reducible refine ze ?_ ?_) | split)) <;> intro h <;> first | exact h1 _ h | cases h
theorem zuw (N : Nat) : Ze (zn qP) (zBU N) zb5 (lam N (zgS N)) Tryz.f94 (zpT N) := fun x => by kernel_rfl
def zBT (N : Nat) : Ent qP := zx (zd qP) (zi _) zl 94 Tryz.f94 Tryz.func94 rfl zb5 (lam N (zgS N)) (zm (l := [(9, zc 9 zut)]) (al (zpS N) an) (by kernel_rfl)) (zpT N) (fun _ => ⟨rfl, rfl⟩) (zuw N) (fun _ _ _ h => zu h (fun _ _ => rfl) (fun _ _ => rfl)) (zuv N)
def zwV : Nat -> Keep × Keep := anL []
def zDX (N : Nat) : GamK := gam (P := qP) [zBT N]
def zpb (N : Nat) : FSpec where
 X := RT1 × RT1
 Y := Int
 ash := [[none, none, none, none, none, none, none, none, none], [none, none, none, none, none, none, none, none, none]]
 S := ⟨[[none]], [], [], [], []⟩
 pat := fun a b => rdA [.agg RK1, .agg RK1] [] a b fun ⟨a0, a1, _⟩ _ => (a0, a1)
 args := fun x => [(AV.agg (zy x.1)), (AV.agg (zy x.2))]
 ret := fun y => ⟨(AV.v (.int .i64 y)), [], none, [], [], [], none⟩
 t := fun x α k => (match (decide (x.1.2.2.2.2.1 < x.2.2.2.2.2.1)) with | true => (k (-1)) | false => (match (decide (x.1.2.2.2.2.1 > x.2.2.2.2.2.1)) with | true => (k 1) | false => (match zBR N x with | some y1 => (k y1) | none => none)))
abbrev zyF (N : Nat) (x : RT1 × RT1) : Option (Int) := (zpb N).d x
theorem ztx (N : Nat) : Zc (zpb N).t := by
 intro x α β k k' r r' h h1
 revert h
 dsimp only [zpb]
 (repeat' (first | (with_reducible refine ze ?_ ?_) | split)) <;> intro h <;> first | exact h1 _ h | cases h
theorem zty (N : Nat) : Ze (zn qP) (zDX N) zwV (lam N []) Tryz.f73 (zpb N) := fun x => by kernel_rfl
def zBw (N : Nat) : Ent qP := zx (zd qP) (zi _) zl 73 Tryz.f73 Tryz.func73 rfl zwV (lam N []) (zm (l := []) an (by kernel_rfl)) (zpb N) (fun _ => ⟨rfl, rfl⟩) (zty N) (fun _ _ _ h => zu h (fun _ _ => rfl) (fun _ _ => rfl)) (ztx N)
def zc9 : Nat -> Keep × Keep := anL [(5, ⟨[2, 3, 4], [], [2, 3], [(0, 9)], [], [], [], [], false, none, []⟩, qK [2, 3] [] [2, 3])]
def zBr (N : Nat) : GamK := gam (P := qP) [zBw N]
def zda (N : Nat) : LSpec where
 X := qL × Int × RT1 × RT1
 Y := (RT1 × RT1)
 p := fun s => rdS 26 0 [(0, .lst 9), (2, .ptr 2 0), (3, .ptr 3 0), (4, .int .i64)] [(2, .row RK1), (3, .row RK1)] s fun ⟨a0, _, _, a1, _⟩ ⟨a2, a3, _⟩ => (a0, a1, a2, a3)
 st := fun u5 => mkS 26 [(0, (AV.list 9 u5.1 none)), (2, (AV.ptr 2 0)), (3, (AV.ptr 3 0)), (4, (qI u5.2.1))] [(2, (zy u5.2.2.1)), (3, (zy u5.2.2.2))] (zc9 5).1.toks 0
 out := fun y => (.exit 0, mkS 26 [(2, (AV.ptr 2 0)), (3, (AV.ptr 3 0))] [(2, (zy y.1)), (3, (zy y.2))] (zc9 5).2.toks 0)
 b := fun u5 α kn ke => (match (decide (u5.2.1 < (u5.1.length : Int))) with | true => (if 0 <= u5.2.1 then (match u5.1[u5.2.1.toNat]? with | some c8 => (match Jv c8 with | some e9 => (match zyF N (e9, u5.2.2.2) with | some y10 => (match (decide (y10 < 0)) with | true => (if 0 <= u5.2.1 then (match u5.1[u5.2.1.toNat]? with | some c11 => (match Jv c11 with | some e12 => (kn (u5.1, (i64 (u5.2.1 + 1)), u5.2.2.1, e12)) | none => none) | none => none) else none) | false => (kn (u5.1, (i64 (u5.2.1 + 1)), u5.2.2))) | none => none) | none => none) | none => none) else none) | false => (ke u5.2.2))
abbrev zBq (N : Nat) (x : qL × Int × RT1 × RT1) : Option ((RT1 × RT1)) := (zda N).L N x
def zo4 (N : Nat) : FSpec where
 X := qL
 Y := RT1
 ash := [[some 9]]
 S := ⟨[[none, none, none, none, none, none, none, none, none]], [], [], [], []⟩
 pat := fun a b => rdA [.lst 9] [] a b fun ⟨a0, _⟩ _ => a0
 args := fun x => [(AV.list 9 x none)]
 ret := fun y => ⟨(AV.agg (zy y)), [], none, [], [], [], none⟩
 t := fun x α k => (if 0 <= (0 : Int) then (match x[(0 : Int).toNat]? with | some c1 => (match Jv c1 with | some e2 => (match zBq N (x, 1, ((⟨#[]⟩ : ByteArray), (⟨#[]⟩ : ByteArray), (⟨#[]⟩ : ByteArray), (⟨#[]⟩ : ByteArray), 0, 0, 0, 0, 0, ()), e2) with | some y13 => (k y13.2) | none => none) | none => none) | none => none) else none)
abbrev zBp (N : Nat) (x : qL) : Option (RT1) := (zo4 N).d x
def zgL (N : Nat) : List (Nat × LSpec) := [(5, zda N)]
def ztm : Code := Tryz.f70.body.getD .skip
theorem ztn (N : Nat) : Par (zda N).b := by
 intro x α β kn ke kn' ke' r r' h h1 h2
 revert h
 dsimp only [zda]
 (repeat' (first | (with_reducible refine ze ?_ ?_) | split)) <;> intro h <;> first | exact h1 _ h | exact h2 _ h | cases h
theorem zo2 (N : Nat) : je (zn qP) (zBr N) zc9 N (zgL N) 5 ztm (zda N) := fun x α kn ke => by kernel_rfl
theorem zo3 (N : Nat) : ZE qP zc9 N (zgL N) 5 (zc 5 ztm) :=
 zC (zd qP) (zi _) zl zc9 N (zgL N) 5 ztm (l := []) (by kernel_rfl) (by kernel_rfl) an (zda N) rfl (fun s x hc h => by dsimp only [zda] at h; exact zI hc h (fun _ _ => rfl) rfl rfl rfl) (fun _ => rfl) (zo2 N) (ztn N)
theorem zto (N : Nat) : Zc (zo4 N).t := by
 intro x α β k k' r r' h h1
 revert h
 dsimp only [zo4]
 (repeat' (first | (with_reducible refine ze ?_ ?_) | split)) <;> intro h <;> first | exact h1 _ h | cases h
theorem ztp (N : Nat) : Ze (zn qP) (zBr N) zc9 (lam N (zgL N)) Tryz.f70 (zo4 N) := fun x => by kernel_rfl
def zDV (N : Nat) : Ent qP := zx (zd qP) (zi _) zl 70 Tryz.f70 Tryz.func70 rfl zc9 (lam N (zgL N)) (zm (l := [(5, zc 5 ztm)]) (al (zo3 N) an) (by kernel_rfl)) (zo4 N) (fun _ => ⟨rfl, rfl⟩) (ztp N) (fun _ _ _ h => zu h (fun _ _ => rfl) (fun _ _ => rfl)) (zto N)
def JU : Nat -> Keep × Keep := anF [(5, ⟨[4], [], [], [(0, 9)], [], [(3, 9)], [], [], false, none, []⟩, ⟨[], [], [], [], [], [(3, 9)], [], [], false, none, []⟩), (14, ⟨[3, 4, 5], [], [1000003], [(0, 9)], [], [], [], [1000003], false, none, []⟩, ⟨[3, 4, 5], [], [1000003], [(0, 9)], [], [], [], [1000003], false, none, []⟩)] [(100012, ([3], []))]
def zyE (N : Nat) : GamK := gam (P := qP) [zBT N]
def zaV (N : Nat) : LSpec where
 X := qL × Nat × Int × Int × qA
 Y := (qL × Nat × Int × Int × qA)
 p := fun s => rdS 68 0 [(0, .lst 9), (3, .vs0 1000003 9), (4, .int .i64), (5, .int .i64)] [(1000003, .tt)] s fun ⟨a0, a1, a2, a3, _⟩ ⟨a4, _⟩ => (a0, a1, a2, a3, a4)
 st := fun u14 => mkS 68 [(0, (AV.list 9 u14.1 none)), (3, (AV.vs 1000003 0 u14.2.1 9)), (4, (qI u14.2.2.1)), (5, (qI u14.2.2.2.1))] [(1000003, u14.2.2.2.2)] (JU 14).1.toks 0
 out := fun y => (.exit 2, mkS 68 [(0, (AV.list 9 y.1 none)), (3, (AV.vs 1000003 0 y.2.1 9)), (4, (qI y.2.2.1)), (5, (qI y.2.2.2.1))] [(1000003, y.2.2.2.2)] (JU 14).2.toks 0)
 b := fun u14 α kn ke => (match (decide (u14.2.2.2.1 > 0)) with | true => (if 0 <= (i64 (u14.2.2.2.1 - 1)) /\ (i64 (u14.2.2.2.1 - 1)) < (u14.2.1 : Int) then (match Jv (u14.2.2.2.2.drop ((0 + (i64 (u14.2.2.2.1 - 1)).toNat) * 9)) with | some e5 => (if 0 <= u14.2.2.1 then (match u14.1[u14.2.2.1.toNat]? with | some c6 => (match Jv c6 with | some e7 => (match zBR N (e5, e7) with | some y8 => (match (decide (y8 > 0)) with | true => (kn (u14.1, u14.2.1, u14.2.2.1, (i64 (u14.2.2.2.1 - 1)), (u14.2.2.2.2.map dat0))) | false => (ke (u14.1, u14.2.1, u14.2.2.1, u14.2.2.2.1, (u14.2.2.2.2.map dat0)))) | none => none) | none => none) | none => none) else none) | none => none) else none) | false => (ke (u14.1, u14.2.1, u14.2.2.1, u14.2.2.2.1, (u14.2.2.2.2.map dat0))))
abbrev zyD (N : Nat) (x : qL × Nat × Int × Int × qA) : Option ((qL × Nat × Int × Int × qA)) := (zaV N).L N x
def zdb (N : Nat) : LSpec where
 X := Nat × qL × Int × qA
 Y := (Nat × qA)
 p := fun s => rdS 68 0 [(3, .vs0 1000003 9), (0, .lst 9), (4, .int .i64)] [(1000003, .tt)] s fun ⟨a0, a1, a2, _⟩ ⟨a3, _⟩ => (a0, a1, a2, a3)
 st := fun u5 => mkS 68 [(3, (AV.vs 1000003 0 u5.1 9)), (0, (AV.list 9 u5.2.1 none)), (4, (qI u5.2.2.1))] [(1000003, u5.2.2.2)] (JU 5).1.toks 0
 out := fun y => (.exit 0, mkS 68 [(3, (AV.vs 1000003 0 y.1 9))] [(1000003, y.2)] (JU 5).2.toks 0)
 b := fun u5 α kn ke => (match (decide (u5.2.2.1 < (u5.2.1.length : Int))) with | true => (match zyD N (u5.2.1, u5.1, u5.2.2.1, ((u5.1 : Nat) : Int), (u5.2.2.2.map dat0)) with | some y9 => (match (decide (y9.2.2.2.1 > 0)) with | true => (if 0 <= (i64 (y9.2.2.2.1 - 1)) /\ (i64 (y9.2.2.2.1 - 1)) < (y9.2.1 : Int) then (match Jv (y9.2.2.2.2.drop ((0 + (i64 (y9.2.2.2.1 - 1)).toNat) * 9)) with | some e10 => (if 0 <= y9.2.2.1 then (match y9.1[y9.2.2.1.toNat]? with | some c11 => (match Jv c11 with | some e12 => (match (((e10.1 == e12.1) && ((e10.2.1 == e12.2.1) && ((e10.2.2.1 == e12.2.2.1) && ((e10.2.2.2.1 == e12.2.2.2.1) && true)))) && ((e10.2.2.2.2.1 == e12.2.2.2.2.1) && ((e10.2.2.2.2.2.1 == e12.2.2.2.2.2.1) && ((e10.2.2.2.2.2.2.1 == e12.2.2.2.2.2.2.1) && ((e10.2.2.2.2.2.2.2.1 == e12.2.2.2.2.2.2.2.1) && ((e10.2.2.2.2.2.2.2.2.1 == e12.2.2.2.2.2.2.2.2.1) && true)))))) with | true => (kn (y9.2.1, y9.1, (i64 (y9.2.2.1 + 1)), (y9.2.2.2.2.map dat0))) | false => (if 0 <= y9.2.2.1 then (match y9.1[y9.2.2.1.toNat]? with | some c13 => (match Jv c13 with | some e14 => (if y9.2.1 * 9 <= y9.2.2.2.2.length /\ (y9.2.1 + [(zy e14)].length) * 104 <= zh then (if 0 <= (i64 (y9.2.2.2.1 + 1)) /\ (i64 (y9.2.2.2.1 + 1)) <= (((y9.2.1 + [(zy e14)].length) : Nat) : Int) then (if 0 <= y9.2.2.2.1 /\ y9.2.2.2.1 <= (((y9.2.1 + [(zy e14)].length) : Nat) : Int) then (if ((0 + y9.2.2.2.1.toNat) + ((y9.2.1 + [(zy e14)].length) - y9.2.2.2.1.toNat)) * 9 <= (y9.2.2.2.2.take (y9.2.1 * 9) ++ [(zy e14)].flatten).length then (if ((0 + (i64 (y9.2.2.2.1 + 1)).toNat) + ((y9.2.1 + [(zy e14)].length) - (i64 (y9.2.2.2.1 + 1)).toNat)) * 9 <= (y9.2.2.2.2.take (y9.2.1 * 9) ++ [(zy e14)].flatten).length then (if 0 <= y9.2.2.1 then (match y9.1[y9.2.2.1.toNat]? with | some c15 => (match Jv c15 with | some e16 => (if 0 <= y9.2.2.2.1 /\ y9.2.2.2.1 < (((y9.2.1 + [(zy e14)].length) : Nat) : Int) then (if ((0 + y9.2.2.2.1.toNat) * 9) + 9 <= (splice (y9.2.2.2.2.take (y9.2.1 * 9) ++ [(zy e14)].flatten) ((0 + (i64 (y9.2.2.2.1 + 1)).toNat) * 9) (((y9.2.2.2.2.take (y9.2.1 * 9) ++ [(zy e14)].flatten).drop ((0 + y9.2.2.2.1.toNat) * 9)).take ((Nat.min ((y9.2.1 + [(zy e14)].length) - y9.2.2.2.1.toNat) ((y9.2.1 + [(zy e14)].length) - (i64 (y9.2.2.2.1 + 1)).toNat)) * 9))).length then (kn ((y9.2.1 + [(zy e14)].length), y9.1, (i64 (y9.2.2.1 + 1)), ((splice (splice (y9.2.2.2.2.take (y9.2.1 * 9) ++ [(zy e14)].flatten) ((0 + (i64 (y9.2.2.2.1 + 1)).toNat) * 9) (((y9.2.2.2.2.take (y9.2.1 * 9) ++ [(zy e14)].flatten).drop ((0 + y9.2.2.2.1.toNat) * 9)).take ((Nat.min ((y9.2.1 + [(zy e14)].length) - y9.2.2.2.1.toNat) ((y9.2.1 + [(zy e14)].length) - (i64 (y9.2.2.2.1 + 1)).toNat)) * 9))) ((0 + y9.2.2.2.1.toNat) * 9) (zy e16)).map dat0))) else none) else none) | none => none) | none => none) else none) else none) else none) else none) else none) else none) | none => none) | none => none) else none)) | none => none) | none => none) else none) | none => none) else none) | false => (if 0 <= y9.2.2.1 then (match y9.1[y9.2.2.1.toNat]? with | some c17 => (match Jv c17 with | some e18 => (if y9.2.1 * 9 <= y9.2.2.2.2.length /\ (y9.2.1 + [(zy e18)].length) * 104 <= zh then (if 0 <= (i64 (y9.2.2.2.1 + 1)) /\ (i64 (y9.2.2.2.1 + 1)) <= (((y9.2.1 + [(zy e18)].length) : Nat) : Int) then (if 0 <= y9.2.2.2.1 /\ y9.2.2.2.1 <= (((y9.2.1 + [(zy e18)].length) : Nat) : Int) then (if ((0 + y9.2.2.2.1.toNat) + ((y9.2.1 + [(zy e18)].length) - y9.2.2.2.1.toNat)) * 9 <= (y9.2.2.2.2.take (y9.2.1 * 9) ++ [(zy e18)].flatten).length then (if ((0 + (i64 (y9.2.2.2.1 + 1)).toNat) + ((y9.2.1 + [(zy e18)].length) - (i64 (y9.2.2.2.1 + 1)).toNat)) * 9 <= (y9.2.2.2.2.take (y9.2.1 * 9) ++ [(zy e18)].flatten).length then (if 0 <= y9.2.2.1 then (match y9.1[y9.2.2.1.toNat]? with | some c19 => (match Jv c19 with | some e20 => (if 0 <= y9.2.2.2.1 /\ y9.2.2.2.1 < (((y9.2.1 + [(zy e18)].length) : Nat) : Int) then (if ((0 + y9.2.2.2.1.toNat) * 9) + 9 <= (splice (y9.2.2.2.2.take (y9.2.1 * 9) ++ [(zy e18)].flatten) ((0 + (i64 (y9.2.2.2.1 + 1)).toNat) * 9) (((y9.2.2.2.2.take (y9.2.1 * 9) ++ [(zy e18)].flatten).drop ((0 + y9.2.2.2.1.toNat) * 9)).take ((Nat.min ((y9.2.1 + [(zy e18)].length) - y9.2.2.2.1.toNat) ((y9.2.1 + [(zy e18)].length) - (i64 (y9.2.2.2.1 + 1)).toNat)) * 9))).length then (kn ((y9.2.1 + [(zy e18)].length), y9.1, (i64 (y9.2.2.1 + 1)), ((splice (splice (y9.2.2.2.2.take (y9.2.1 * 9) ++ [(zy e18)].flatten) ((0 + (i64 (y9.2.2.2.1 + 1)).toNat) * 9) (((y9.2.2.2.2.take (y9.2.1 * 9) ++ [(zy e18)].flatten).drop ((0 + y9.2.2.2.1.toNat) * 9)).take ((Nat.min ((y9.2.1 + [(zy e18)].length) - y9.2.2.2.1.toNat) ((y9.2.1 + [(zy e18)].length) - (i64 (y9.2.2.2.1 + 1)).toNat)) * 9))) ((0 + y9.2.2.2.1.toNat) * 9) (zy e20)).map dat0))) else none) else none) | none => none) | none => none) else none) else none) else none) else none) else none) else none) | none => none) | none => none) else none)) | none => none) | false => (ke (u5.1, (u5.2.2.2.map dat0))))
abbrev zBv (N : Nat) (x : Nat × qL × Int × qA) : Option ((Nat × qA)) := (zdb N).L N x
def zpa (N : Nat) : FSpec where
 X := qL
 Y := qL
 ash := [[some 9]]
 S := ⟨[[some 2000009]], [], [], [], []⟩
 pat := fun a b => rdA [.lst 9] [] a b fun ⟨a0, _⟩ _ => a0
 args := fun x => [(AV.list 9 x none)]
 ret := fun y => ⟨(AV.list 9 y (some 2560000000)), [], none, [], [2560000000], [], none⟩
 t := fun x α k => (match zBv N (0, x, 0, ([] : List AV)) with | some y21 => (if y21.1 * 9 <= y21.2.length then (k (zL (y21.2.take (y21.1 * 9)) 9 y21.1)) else none) | none => none)
abbrev zBu (N : Nat) (x : qL) : Option (qL) := (zpa N).d x
def zbW (N : Nat) : List (Nat × LSpec) := [(5, zdb N), (14, zaV N)]
def zfx : Code := Tryz.f72.body.getD .skip
theorem zo9 (N : Nat) : Par (zaV N).b := by
 intro x α β kn ke kn' ke' r r' h h1 h2
 revert h
 dsimp only [zaV]
 (repeat' (first | (with_reducible refine ze ?_ ?_) | split)) <;> intro h <;> first | exact h1 _ h | exact h2 _ h | cases h
theorem zlf (N : Nat) : je (J2 qP [51]) (zyE N) JU N (zbW N) 14 zfx (zaV N) := fun x α kn ke => by kernel_rfl
theorem zeK (N : Nat) : ZE qP JU N (zbW N) 14 (zc 14 zfx) :=
 zC (zM qP [51]) (zi _) zl JU N (zbW N) 14 zfx (l := []) (by kernel_rfl) (by kernel_rfl) an (zaV N) rfl (fun s x hc h => by dsimp only [zaV] at h; exact zI hc h (fun _ _ => rfl) rfl rfl rfl) (fun _ => rfl) (zlf N) (zo9 N)
theorem ztu (N : Nat) : Par (zdb N).b := by
 intro x α β kn ke kn' ke' r r' h h1 h2
 revert h
 dsimp only [zdb]
 (repeat' (first | (with_reducible refine ze ?_ ?_) | split)) <;> intro h <;> first | exact h1 _ h | exact h2 _ h | cases h
theorem zo7 (N : Nat) : je (J2 qP [51]) (zyE N) JU N (zbW N) 5 zfx (zdb N) := fun x α kn ke => by kernel_rfl
theorem zo8 (N : Nat) : ZE qP JU N (zbW N) 5 (zc 5 zfx) :=
 zC (zM qP [51]) (zi _) zl JU N (zbW N) 5 zfx (l := [(14, zc 14 zfx)]) (by kernel_rfl) (by kernel_rfl) (al (zeK N) an) (zdb N) rfl (fun s x hc h => by dsimp only [zdb] at h; exact zI hc h (fun _ _ => rfl) rfl rfl rfl) (fun _ => rfl) (zo7 N) (ztu N)
theorem ztv (N : Nat) : Zc (zpa N).t := by
 intro x α β k k' r r' h h1
 revert h
 dsimp only [zpa]
 (repeat' (first | (with_reducible refine ze ?_ ?_) | split)) <;> intro h <;> first | exact h1 _ h | cases h
theorem ztw (N : Nat) : Ze (J2 qP [51]) (zyE N) JU (lam N (zbW N)) Tryz.f72 (zpa N) := fun x => by kernel_rfl
def zDW (N : Nat) : Ent qP := zx (zM qP [51]) (zi _) zl 72 Tryz.f72 Tryz.func72 rfl JU (lam N (zbW N)) (zm (l := [(5, zc 5 zfx), (14, zc 14 zfx)]) (al (zo8 N) (al (zeK N) an)) (by kernel_rfl)) (zpa N) (fun _ => ⟨rfl, rfl⟩) (ztw N) (fun _ _ _ h => zu h (fun _ _ => rfl) (fun _ _ => rfl)) (ztv N)
def zbV : Nat -> Keep × Keep := anL [(8, ⟨[5], [], [], [(0, 9), (1, 9)], [], [], [], [], false, none, []⟩, qK [4] [] [])]
def zBt (N : Nat) : GamK := gam (P := qP) []
def Z5 (N : Nat) : LSpec where
 X := qL × qL × Int
 Y := (Bool) ⊕ (Unit)
 p := fun s => rdS 26 0 [(0, .lst 9), (1, .lst 9), (5, .int .i64)] [] s fun ⟨a0, a1, a2, _⟩ _ => (a0, a1, a2)
 st := fun u8 => mkS 26 [(0, (AV.list 9 u8.1 none)), (1, (AV.list 9 u8.2.1 none)), (5, (qI u8.2.2))] [] (zbV 8).1.toks 0
 out := fun y => match y with
  | .inl y => (.ret, mkS 26 [(4, (AV.v (.bool y)))] [] (zbV 8).2.toks 0)
  | .inr y => (.exit 0, mkS 26 [] [] (zbV 8).2.toks 0)
 b := fun u8 α kn ke => (match (decide (u8.2.2 < (u8.1.length : Int))) with | true => (if 0 <= u8.2.2 then (match u8.1[u8.2.2.toNat]? with | some c1 => (match Jv c1 with | some e2 => (if 0 <= u8.2.2 then (match u8.2.1[u8.2.2.toNat]? with | some c3 => (match Jv c3 with | some e4 => (match (!(((e2.1 == e4.1) && ((e2.2.1 == e4.2.1) && ((e2.2.2.1 == e4.2.2.1) && ((e2.2.2.2.1 == e4.2.2.2.1) && true)))) && ((e2.2.2.2.2.1 == e4.2.2.2.2.1) && ((e2.2.2.2.2.2.1 == e4.2.2.2.2.2.1) && ((e2.2.2.2.2.2.2.1 == e4.2.2.2.2.2.2.1) && ((e2.2.2.2.2.2.2.2.1 == e4.2.2.2.2.2.2.2.1) && ((e2.2.2.2.2.2.2.2.2.1 == e4.2.2.2.2.2.2.2.2.1) && true))))))) with | true => (ke (.inl false)) | false => (kn (u8.1, u8.2.1, (i64 (u8.2.2 + 1))))) | none => none) | none => none) else none) | none => none) | none => none) else none) | false => (ke (.inr ())))
abbrev zwU (N : Nat) (x : qL × qL × Int) : Option ((Bool) ⊕ (Unit)) := (Z5 N).L N x
def zle (N : Nat) : FSpec where
 X := qL × qL
 Y := Bool
 ash := [[some 9], [some 9]]
 S := ⟨[[none]], [], [], [], []⟩
 pat := fun a b => rdA [.lst 9, .lst 9] [] a b fun ⟨a0, a1, _⟩ _ => (a0, a1)
 args := fun x => [(AV.list 9 x.1 none), (AV.list 9 x.2 none)]
 ret := fun y => ⟨(AV.v (.bool y)), [], none, [], [], [], none⟩
 t := fun x α k => (match ((x.1.length : Int) != (x.2.length : Int)) with | true => (k false) | false => (match zwU N (x.1, x.2, 0) with | some y5 => (match y5 with | .inl z6 => (k z6) | .inr z7 => (k true)) | none => none))
abbrev zhU (N : Nat) (x : qL × qL) : Option (Bool) := (zle N).d x
def zgM (N : Nat) : List (Nat × LSpec) := [(8, Z5 N)]
def ztq : Code := Tryz.f71.body.getD .skip
theorem ztr (N : Nat) : Par (Z5 N).b := by
 intro x α β kn ke kn' ke' r r' h h1 h2
 revert h
 dsimp only [Z5]
 (repeat' (first | (with_reducible refine ze ?_ ?_) | split)) <;> intro h <;> first | exact h1 _ h | exact h2 _ h | cases h
theorem zo5 (N : Nat) : je (zn qP) (zBt N) zbV N (zgM N) 8 ztq (Z5 N) := fun x α kn ke => by kernel_rfl
theorem zo6 (N : Nat) : ZE qP zbV N (zgM N) 8 (zc 8 ztq) :=
 zC (zd qP) (zi _) zl zbV N (zgM N) 8 ztq (l := []) (by kernel_rfl) (by kernel_rfl) an (Z5 N) rfl (fun s x hc h => by dsimp only [Z5] at h; exact zI hc h (fun _ _ => rfl) rfl rfl rfl) (fun _ => rfl) (zo5 N) (ztr N)
theorem zts (N : Nat) : Zc (zle N).t := by
 intro x α β k k' r r' h h1
 revert h
 dsimp only [zle]
 (repeat' (first | (with_reducible refine ze ?_ ?_) | split)) <;> intro h <;> first | exact h1 _ h | cases h
theorem ztt (N : Nat) : Ze (zn qP) (zBt N) zbV (lam N (zgM N)) Tryz.f71 (zle N) := fun x => by kernel_rfl
def zBs (N : Nat) : Ent qP := zx (zd qP) (zi _) zl 71 Tryz.f71 Tryz.func71 rfl zbV (lam N (zgM N)) (zm (l := [(8, zc 8 ztq)]) (al (zo6 N) an) (by kernel_rfl)) (zle N) (fun _ => ⟨rfl, rfl⟩) (ztt N) (fun _ _ _ h => zu h (fun _ _ => rfl) (fun _ _ => rfl)) (zts N)
def Jj : Nat -> Keep × Keep := anL [(4, ⟨[5], [], [], [(0, 9), (1, 9)], [], [], [], [], false, none, []⟩, qK [4] [] []), (12, ⟨[5, 6], [], [], [(0, 9), (1, 9)], [], [], [], [], false, none, []⟩, ⟨[4, 5], [], [], [(0, 9), (1, 9)], [], [], [], [], false, none, []⟩)]
def zyH (N : Nat) : GamK := gam (P := qP) []
def ZB (N : Nat) : LSpec where
 X := qL × qL × Int × Int
 Y := (qL × qL × Bool × Int) ⊕ (qL × qL × Int)
 p := fun s => rdS 28 0 [(0, .lst 9), (1, .lst 9), (5, .int .i64), (6, .int .i64)] [] s fun ⟨a0, a1, a2, a3, _⟩ _ => (a0, a1, a2, a3)
 st := fun u12 => mkS 28 [(0, (AV.list 9 u12.1 none)), (1, (AV.list 9 u12.2.1 none)), (5, (qI u12.2.2.1)), (6, (qI u12.2.2.2))] [] (Jj 12).1.toks 0
 out := fun y => match y with
  | .inl y => (.ret, mkS 28 [(0, (AV.list 9 y.1 none)), (1, (AV.list 9 y.2.1 none)), (4, (AV.v (.bool y.2.2.1))), (5, (qI y.2.2.2))] [] (Jj 12).2.toks 0)
  | .inr y => (.exit 2, mkS 28 [(0, (AV.list 9 y.1 none)), (1, (AV.list 9 y.2.1 none)), (5, (qI y.2.2))] [] (Jj 12).2.toks 0)
 b := fun u12 α kn ke => (match (decide (u12.2.2.2 < (u12.2.1.length : Int))) with | true => (if 0 <= u12.2.2.1 then (match u12.1[u12.2.2.1.toNat]? with | some c1 => (match Jv c1 with | some e2 => (if 0 <= u12.2.2.2 then (match u12.2.1[u12.2.2.2.toNat]? with | some c3 => (match Jv c3 with | some e4 => (match (((e2.1 == e4.1) && ((e2.2.1 == e4.2.1) && ((e2.2.2.1 == e4.2.2.1) && ((e2.2.2.2.1 == e4.2.2.2.1) && true)))) && ((e2.2.2.2.2.1 == e4.2.2.2.2.1) && ((e2.2.2.2.2.2.1 == e4.2.2.2.2.2.1) && ((e2.2.2.2.2.2.2.1 == e4.2.2.2.2.2.2.1) && ((e2.2.2.2.2.2.2.2.1 == e4.2.2.2.2.2.2.2.1) && ((e2.2.2.2.2.2.2.2.2.1 == e4.2.2.2.2.2.2.2.2.1) && true)))))) with | true => (ke (.inl (u12.1, u12.2.1, true, u12.2.2.1))) | false => (kn (u12.1, u12.2.1, u12.2.2.1, (i64 (u12.2.2.2 + 1))))) | none => none) | none => none) else none) | none => none) | none => none) else none) | false => (ke (.inr (u12.1, u12.2.1, u12.2.2.1))))
abbrev zhV (N : Nat) (x : qL × qL × Int × Int) : Option ((qL × qL × Bool × Int) ⊕ (qL × qL × Int)) := (ZB N).L N x
def Z6 (N : Nat) : LSpec where
 X := qL × qL × Int
 Y := (Bool) ⊕ (Unit)
 p := fun s => rdS 28 0 [(0, .lst 9), (1, .lst 9), (5, .int .i64)] [] s fun ⟨a0, a1, a2, _⟩ _ => (a0, a1, a2)
 st := fun u4 => mkS 28 [(0, (AV.list 9 u4.1 none)), (1, (AV.list 9 u4.2.1 none)), (5, (qI u4.2.2))] [] (Jj 4).1.toks 0
 out := fun y => match y with
  | .inl y => (.ret, mkS 28 [(4, (AV.v (.bool y)))] [] (Jj 4).2.toks 0)
  | .inr y => (.exit 0, mkS 28 [] [] (Jj 4).2.toks 0)
 b := fun u4 α kn ke => (match (decide (u4.2.2 < (u4.1.length : Int))) with | true => (match zhV N (u4.1, u4.2.1, u4.2.2, 0) with | some y5 => (match y5 with | .inl z6 => (ke (.inl z6.2.2.1)) | .inr z7 => (kn (z7.1, z7.2.1, (i64 (z7.2.2 + 1))))) | none => none) | false => (ke (.inr ())))
abbrev zwW (N : Nat) (x : qL × qL × Int) : Option ((Bool) ⊕ (Unit)) := (Z6 N).L N x
def zlh (N : Nat) : FSpec where
 X := qL × qL
 Y := Bool
 ash := [[some 9], [some 9]]
 S := ⟨[[none]], [], [], [], []⟩
 pat := fun a b => rdA [.lst 9, .lst 9] [] a b fun ⟨a0, a1, _⟩ _ => (a0, a1)
 args := fun x => [(AV.list 9 x.1 none), (AV.list 9 x.2 none)]
 ret := fun y => ⟨(AV.v (.bool y)), [], none, [], [], [], none⟩
 t := fun x α k => (match zwW N (x.1, x.2, 0) with | some y8 => (match y8 with | .inl z9 => (k z9) | .inr z10 => (k false)) | none => none)
abbrev zyG (N : Nat) (x : qL × qL) : Option (Bool) := (zlh N).d x
def zbX (N : Nat) : List (Nat × LSpec) := [(4, Z6 N), (12, ZB N)]
def zfy : Code := Tryz.f74.body.getD .skip
theorem zpe (N : Nat) : Par (ZB N).b := by
 intro x α β kn ke kn' ke' r r' h h1 h2
 revert h
 dsimp only [ZB]
 (repeat' (first | (with_reducible refine ze ?_ ?_) | split)) <;> intro h <;> first | exact h1 _ h | exact h2 _ h | cases h
theorem zlg (N : Nat) : je (zn qP) (zyH N) Jj N (zbX N) 12 zfy (ZB N) := fun x α kn ke => by kernel_rfl
theorem zeL (N : Nat) : ZE qP Jj N (zbX N) 12 (zc 12 zfy) :=
 zC (zd qP) (zi _) zl Jj N (zbX N) 12 zfy (l := []) (by kernel_rfl) (by kernel_rfl) an (ZB N) rfl (fun s x hc h => by dsimp only [ZB] at h; exact zI hc h (fun _ _ => rfl) rfl rfl rfl) (fun _ => rfl) (zlg N) (zpe N)
theorem ztz (N : Nat) : Par (Z6 N).b := by
 intro x α β kn ke kn' ke' r r' h h1 h2
 revert h
 dsimp only [Z6]
 (repeat' (first | (with_reducible refine ze ?_ ?_) | split)) <;> intro h <;> first | exact h1 _ h | exact h2 _ h | cases h
theorem zpc (N : Nat) : je (zn qP) (zyH N) Jj N (zbX N) 4 zfy (Z6 N) := fun x α kn ke => by kernel_rfl
theorem zpd (N : Nat) : ZE qP Jj N (zbX N) 4 (zc 4 zfy) :=
 zC (zd qP) (zi _) zl Jj N (zbX N) 4 zfy (l := [(12, zc 12 zfy)]) (by kernel_rfl) (by kernel_rfl) (al (zeL N) an) (Z6 N) rfl (fun s x hc h => by dsimp only [Z6] at h; exact zI hc h (fun _ _ => rfl) rfl rfl rfl) (fun _ => rfl) (zpc N) (ztz N)
theorem ztA (N : Nat) : Zc (zlh N).t := by
 intro x α β k k' r r' h h1
 revert h
 dsimp only [zlh]
 (repeat' (first | (with_reducible refine ze ?_ ?_) | split)) <;> intro h <;> first | exact h1 _ h | cases h
theorem ztB (N : Nat) : Ze (zn qP) (zyH N) Jj (lam N (zbX N)) Tryz.f74 (zlh N) := fun x => by kernel_rfl
def zDY (N : Nat) : Ent qP := zx (zd qP) (zi _) zl 74 Tryz.f74 Tryz.func74 rfl Jj (lam N (zbX N)) (zm (l := [(4, zc 4 zfy), (12, zc 12 zfy)]) (al (zpd N) (al (zeL N) an)) (by kernel_rfl)) (zlh N) (fun _ => ⟨rfl, rfl⟩) (ztB N) (fun _ _ _ h => zu h (fun _ _ => rfl) (fun _ _ => rfl)) (ztA N)
def Je : Nat -> Keep × Keep := anL [(4, ⟨[3], [], [], [(0, 25)], [], [], [], [], false, none, []⟩, qK [2] [] []), (17, ⟨[3, 5], [], [], [(0, 25), (4, 9)], [], [], [], [], false, none, []⟩, ⟨[2, 3], [], [], [(0, 25)], [], [], [], [], false, none, []⟩)]
def zyi (N : Nat) : GamK := gam (P := qP) [zDV N, zDW N, zBs N, zBw N, zDY N]
def ZT (N : Nat) : LSpec where
 X := qL × qL × Int × Int
 Y := (qL × Bool × Int) ⊕ (qL × Int)
 p := fun s => rdS 70 0 [(0, .lst 25), (4, .lst 9), (3, .int .i64), (5, .int .i64)] [] s fun ⟨a0, a1, a2, a3, _⟩ _ => (a0, a1, a2, a3)
 st := fun u17 => mkS 70 [(0, (AV.list 25 u17.1 none)), (4, (AV.list 9 u17.2.1 none)), (3, (qI u17.2.2.1)), (5, (qI u17.2.2.2))] [] (Je 17).1.toks 0
 out := fun y => match y with
  | .inl y => (.ret, mkS 70 [(0, (AV.list 25 y.1 none)), (2, (AV.v (.bool y.2.1))), (3, (qI y.2.2))] [] (Je 17).2.toks 0)
  | .inr y => (.exit 2, mkS 70 [(0, (AV.list 25 y.1 none)), (3, (qI y.2))] [] (Je 17).2.toks 0)
 b := fun u17 α kn ke => (match (decide (u17.2.2.2 < u17.2.2.1)) with | true => (if 0 <= u17.2.2.2 then (match u17.1[u17.2.2.2.toNat]? with | some c14 => (match ((c14.drop 9).drop 0)[0]? with | some x15 => (match jf 9 x15 with | some l16 => (match zyG N (u17.2.1, l16) with | some y17 => (match y17 with | true => (ke (.inl (u17.1, false, u17.2.2.1))) | false => (kn (u17.1, u17.2.1, u17.2.2.1, (i64 (u17.2.2.2 + 1))))) | none => none) | none => none) | none => none) | none => none) else none) | false => (ke (.inr (u17.1, u17.2.2.1))))
abbrev zfs (N : Nat) (x : qL × qL × Int × Int) : Option ((qL × Bool × Int) ⊕ (qL × Int)) := (ZT N).L N x
def jH (N : Nat) : LSpec where
 X := qL × Int
 Y := (Bool) ⊕ (Unit)
 p := fun s => rdS 70 0 [(0, .lst 25), (3, .int .i64)] [] s fun ⟨a0, a1, _⟩ _ => (a0, a1)
 st := fun u4 => mkS 70 [(0, (AV.list 25 u4.1 none)), (3, (qI u4.2))] [] (Je 4).1.toks 0
 out := fun y => match y with
  | .inl y => (.ret, mkS 70 [(2, (AV.v (.bool y)))] [] (Je 4).2.toks 0)
  | .inr y => (.exit 0, mkS 70 [] [] (Je 4).2.toks 0)
 b := fun u4 α kn ke => (match (decide (u4.2 < (u4.1.length : Int))) with | true => (if 0 <= u4.2 then (match u4.1[u4.2.toNat]? with | some c1 => (match ((c1.drop 9).drop 0)[0]? with | some x2 => (match jf 9 x2 with | some l3 => (match ((l3.length : Int) == 0) with | true => (ke (.inl false)) | false => (if 0 <= u4.2 then (match u4.1[u4.2.toNat]? with | some c4 => (match Jv (c4.drop 0) with | some e5 => (match zBp N l3 with | some y6 => (match (!(((e5.1 == y6.1) && ((e5.2.1 == y6.2.1) && ((e5.2.2.1 == y6.2.2.1) && ((e5.2.2.2.1 == y6.2.2.2.1) && true)))) && ((e5.2.2.2.2.1 == y6.2.2.2.2.1) && ((e5.2.2.2.2.2.1 == y6.2.2.2.2.2.1) && ((e5.2.2.2.2.2.2.1 == y6.2.2.2.2.2.2.1) && ((e5.2.2.2.2.2.2.2.1 == y6.2.2.2.2.2.2.2.1) && ((e5.2.2.2.2.2.2.2.2.1 == y6.2.2.2.2.2.2.2.2.1) && true))))))) with | true => (ke (.inl false)) | false => (match zBu N l3 with | some y7 => (match zhU N (l3, y7) with | some y8 => (match (!y8) with | true => (ke (.inl false)) | false => (match (decide (u4.2 > 0)) with | true => (if 0 <= (i64 (u4.2 - 1)) then (match u4.1[(i64 (u4.2 - 1)).toNat]? with | some c9 => (match Jv (c9.drop 0) with | some e10 => (if 0 <= u4.2 then (match u4.1[u4.2.toNat]? with | some c11 => (match Jv (c11.drop 0) with | some e12 => (match zyF N (e10, e12) with | some y13 => (match (decide (y13 >= 0)) with | true => (ke (.inl false)) | false => (match zfs N (u4.1, l3, u4.2, 0) with | some y18 => (match y18 with | .inl z19 => (ke (.inl z19.2.1)) | .inr z20 => (kn (z20.1, (i64 (z20.2 + 1))))) | none => none)) | none => none) | none => none) | none => none) else none) | none => none) | none => none) else none) | false => (match zfs N (u4.1, l3, u4.2, 0) with | some y21 => (match y21 with | .inl z22 => (ke (.inl z22.2.1)) | .inr z23 => (kn (z23.1, (i64 (z23.2 + 1))))) | none => none))) | none => none) | none => none)) | none => none) | none => none) | none => none) else none)) | none => none) | none => none) | none => none) else none) | false => (ke (.inr ())))
abbrev zwu (N : Nat) (x : qL × Int) : Option ((Bool) ⊕ (Unit)) := (jH N).L N x
def zkK (N : Nat) : FSpec where
 X := qL
 Y := Bool
 ash := [[some 25]]
 S := ⟨[[none]], [], [], [], []⟩
 pat := fun a b => rdA [.lst 25] [] a b fun ⟨a0, _⟩ _ => a0
 args := fun x => [(AV.list 25 x none)]
 ret := fun y => ⟨(AV.v (.bool y)), [], none, [], [], [], none⟩
 t := fun x α k => (match zwu N (x, 0) with | some y24 => (match y24 with | .inl z25 => (k z25) | .inr z26 => (k true)) | none => none)
abbrev zfr (N : Nat) (x : qL) : Option (Bool) := (zkK N).d x
def zbQ (N : Nat) : List (Nat × LSpec) := [(4, jH N), (17, ZT N)]
def zfq : Code := Tryz.f39.body.getD .skip
theorem zoa (N : Nat) : Par (ZT N).b := by
 intro x α β kn ke kn' ke' r r' h h1 h2
 revert h
 dsimp only [ZT]
 (repeat' (first | (with_reducible refine ze ?_ ?_) | split)) <;> intro h <;> first | exact h1 _ h | exact h2 _ h | cases h
theorem zkJ (N : Nat) : je (zn qP) (zyi N) Je N (zbQ N) 17 zfq (ZT N) := fun x α kn ke => by kernel_rfl
theorem zeF (N : Nat) : ZE qP Je N (zbQ N) 17 (zc 17 zfq) :=
 zC (zd qP) (zi _) zl Je N (zbQ N) 17 zfq (l := []) (by kernel_rfl) (by kernel_rfl) an (ZT N) rfl (fun s x hc h => by dsimp only [ZT] at h; exact zI hc h (fun _ _ => rfl) rfl rfl rfl) (fun _ => rfl) (zkJ N) (zoa N)
theorem zsi (N : Nat) : Par (jH N).b := by
 intro x α β kn ke kn' ke' r r' h h1 h2
 revert h
 dsimp only [jH]
 (repeat' (first | (with_reducible refine ze ?_ ?_) | split)) <;> intro h <;> first | exact h1 _ h | exact h2 _ h | cases h
theorem zn8 (N : Nat) : je (zn qP) (zyi N) Je N (zbQ N) 4 zfq (jH N) := fun x α kn ke => by kernel_rfl
theorem zn9 (N : Nat) : ZE qP Je N (zbQ N) 4 (zc 4 zfq) :=
 zC (zd qP) (zi _) zl Je N (zbQ N) 4 zfq (l := [(17, zc 17 zfq)]) (by kernel_rfl) (by kernel_rfl) (al (zeF N) an) (jH N) rfl (fun s x hc h => by dsimp only [jH] at h; exact zI hc h (fun _ _ => rfl) rfl rfl rfl) (fun _ => rfl) (zn8 N) (zsi N)
theorem zsj (N : Nat) : Zc (zkK N).t := by
 intro x α β k k' r r' h h1
 revert h
 dsimp only [zkK]
 (repeat' (first | (with_reducible refine ze ?_ ?_) | split)) <;> intro h <;> first | exact h1 _ h | cases h
theorem zsk (N : Nat) : Ze (zn qP) (zyi N) Je (lam N (zbQ N)) Tryz.f39 (zkK N) := fun x => by kernel_rfl
def zyh (N : Nat) : Ent qP := zx (zd qP) (zi _) zl 39 Tryz.f39 Tryz.func39 rfl Je (lam N (zbQ N)) (zm (l := [(4, zc 4 zfq), (17, zc 17 zfq)]) (al (zn9 N) (al (zeF N) an)) (by kernel_rfl)) (zkK N) (fun _ => ⟨rfl, rfl⟩) (zsk N) (fun _ _ _ h => zu h (fun _ _ => rfl) (fun _ _ => rfl)) (zsj N)
abbrev RK6 : List Ck := [.sl 29]
abbrev RT6 : Type := qL × Unit
def zgc (c : List AV) : Option RT6 := dec RK6 c
abbrev RK7 : List Ck := [.int .i64, .int .i64, .str, .int .i64, .str, .str, .str, .str, .int .i64, .int .i64, .int .i64, .int .i64, .int .i64, .sl 9, .int .i64, .int .i64, .int .i64, .int .i64, .int .i64, .int .i64, .int .i64, .int .i64, .int .i64, .int .i64, .int .i64, .int .i64, .int .i64, .int .i64, .int .i64]
abbrev RT7 : Type := Int × Int × ByteArray × Int × ByteArray × ByteArray × ByteArray × ByteArray × Int × Int × Int × Int × Int × qL × Int × Int × Int × Int × Int × Int × Int × Int × Int × Int × Int × Int × Int × Int × Int × Unit
def zlD (c : List AV) : Option RT7 := dec RK7 c
def zK (e : RT7) : List AV := enc RK7 e
theorem zyY (e : RT7) : zlD (zK e) = some e := zfT (ks := RK7) e rfl
@[reducible] def zw (e : RT7) : RT0 := (e.2.2.2.2)
def zwR : Nat -> Keep × Keep := anL []
def zDU (N : Nat) : GamK := gam (P := qP) []
def zlb (N : Nat) : FSpec where
 X := RT7
 Y := Bool
 ash := [[none, none, none, none, none, none, none, none, none, none, none, none, none, some 9, none, none, none, none, none, none, none, none, none, none, none, none, none, none, none]]
 S := ⟨[[none]], [], [], [], []⟩
 pat := fun a b => rdA [.agg RK7] [] a b fun ⟨a0, _⟩ _ => a0
 args := fun x => [(AV.agg (zK x))]
 ret := fun y => ⟨(AV.v (.bool y)), [], none, [], [], [], none⟩
 t := fun x α k => (match (x.1 == 1) with | true => (k true) | false => (match (x.1 == 2) with | true => (k true) | false => (k (x.1 == 6))))
abbrev zhT (N : Nat) (x : RT7) : Option (Bool) := (zlb N).d x
theorem ztk (N : Nat) : Zc (zlb N).t := by
 intro x α β k k' r r' h h1
 revert h
 dsimp only [zlb]
 (repeat' (first | (with_reducible refine ze ?_ ?_) | split)) <;> intro h <;> first | exact h1 _ h | cases h
theorem ztl (N : Nat) : Ze (zn qP) (zDU N) zwR (lam N []) Tryz.f68 (zlb N) := fun x => by kernel_rfl
def zyC (N : Nat) : Ent qP := zx (zd qP) (zi _) zl 68 Tryz.f68 Tryz.func68 rfl zwR (lam N []) (zm (l := []) an (by kernel_rfl)) (zlb N) (fun _ => ⟨rfl, rfl⟩) (ztl N) (fun _ _ _ h => zu h (fun _ _ => rfl) (fun _ _ => rfl)) (ztk N)
def zxc : Nat -> Keep × Keep := anL []
def zEk (N : Nat) : GamK := gam (P := qP) [zyC N]
def zlz (N : Nat) : FSpec where
 X := RT7 × RT7
 Y := Bool
 ash := [[none, none, none, none, none, none, none, none, none, none, none, none, none, some 9, none, none, none, none, none, none, none, none, none, none, none, none, none, none, none], [none, none, none, none, none, none, none, none, none, none, none, none, none, some 9, none, none, none, none, none, none, none, none, none, none, none, none, none, none, none]]
 S := ⟨[[none]], [], [], [], []⟩
 pat := fun a b => rdA [.agg RK7, .agg RK7] [] a b fun ⟨a0, a1, _⟩ _ => (a0, a1)
 args := fun x => [(AV.agg (zK x.1)), (AV.agg (zK x.2))]
 ret := fun y => ⟨(AV.v (.bool y)), [], none, [], [], [], none⟩
 t := fun x α k => (match (x.1.1 == 1) with | true => (match zhT N x.2 with | some y1 => (k y1) | none => none) | false => (match (x.1.1 == 2) with | true => (match (x.2.1 == 1) with | true => (k true) | false => (k (x.2.1 == 6))) | false => (match (x.1.1 == 6) with | true => (match zhT N x.2 with | some y2 => (k (!y2)) | none => none) | false => (k true))))
abbrev zly (N : Nat) (x : RT7 × RT7) : Option (Bool) := (zlz N).d x
theorem zur (N : Nat) : Zc (zlz N).t := by
 intro x α β k k' r r' h h1
 revert h
 dsimp only [zlz]
 (repeat' (first | (with_reducible refine ze ?_ ?_) | split)) <;> intro h <;> first | exact h1 _ h | cases h
theorem zus (N : Nat) : Ze (zn qP) (zEk N) zxc (lam N []) Tryz.f93 (zlz N) := fun x => by kernel_rfl
def zEj (N : Nat) : Ent qP := zx (zd qP) (zi _) zl 93 Tryz.f93 Tryz.func93 rfl zxc (lam N []) (zm (l := []) an (by kernel_rfl)) (zlz N) (fun _ => ⟨rfl, rfl⟩) (zus N) (fun _ _ _ h => zu h (fun _ _ => rfl) (fun _ _ => rfl)) (zur N)
def zw6 : Nat -> Keep × Keep := anL []
def zD9 (N : Nat) : GamK := gam (P := qP) []
def zlu (N : Nat) : FSpec where
 X := Int
 Y := Bool
 ash := [[none]]
 S := ⟨[[none]], [], [], [], []⟩
 pat := fun a b => rdA [.int .i64] [] a b fun ⟨a0, _⟩ _ => a0
 args := fun x => [(AV.v (.int .i64 x))]
 ret := fun y => ⟨(AV.v (.bool y)), [], none, [], [], [], none⟩
 t := fun x α k => (match (x != 1) with | true => (k (x != 3)) | false => (k false))
abbrev zh0 (N : Nat) (x : Int) : Option (Bool) := (zlu N).d x
theorem zt9 (N : Nat) : Zc (zlu N).t := by
 intro x α β k k' r r' h h1
 revert h
 dsimp only [zlu]
 (repeat' (first | (with_reducible refine ze ?_ ?_) | split)) <;> intro h <;> first | exact h1 _ h | cases h
theorem zua (N : Nat) : Ze (zn qP) (zD9 N) zw6 (lam N []) Tryz.f85 (zlu N) := fun x => by kernel_rfl
def zBH (N : Nat) : Ent qP := zx (zd qP) (zi _) zl 85 Tryz.f85 Tryz.func85 rfl zw6 (lam N []) (zm (l := []) an (by kernel_rfl)) (zlu N) (fun _ => ⟨rfl, rfl⟩) (zua N) (fun _ _ _ h => zu h (fun _ _ => rfl) (fun _ _ => rfl)) (zt9 N)
def zwL : Nat -> Keep × Keep := anL []
def zDN (N : Nat) : GamK := gam (P := qP) [zBs N]
def zk8 (N : Nat) : FSpec where
 X := RT3 × RT3
 Y := Bool
 ash := [[some 9, none, none, none, none, none, none, none, none, none, none, none, none, none, none, none], [some 9, none, none, none, none, none, none, none, none, none, none, none, none, none, none, none]]
 S := ⟨[[none]], [], [], [], []⟩
 pat := fun a b => rdA [.agg RK3, .agg RK3] [] a b fun ⟨a0, a1, _⟩ _ => (a0, a1)
 args := fun x => [(AV.agg (zC1 x.1)), (AV.agg (zC1 x.2))]
 ret := fun y => ⟨(AV.v (.bool y)), [], none, [], [], [], none⟩
 t := fun x α k => (match zhU N (x.1.1, x.2.1) with | some y1 => (match y1 with | true => (match (((x.1.2.1 == x.2.2.1) && ((x.1.2.2.1 == x.2.2.2.1) && ((x.1.2.2.2.1 == x.2.2.2.2.1) && true))) && ((x.1.2.2.2.2.1 == x.2.2.2.2.2.1) && ((x.1.2.2.2.2.2.1 == x.2.2.2.2.2.2.1) && ((x.1.2.2.2.2.2.2.1 == x.2.2.2.2.2.2.2.1) && ((((x.1.2.2.2.2.2.2.2.1 == x.2.2.2.2.2.2.2.2.1) && ((x.1.2.2.2.2.2.2.2.2.1 == x.2.2.2.2.2.2.2.2.2.1) && ((x.1.2.2.2.2.2.2.2.2.2.1 == x.2.2.2.2.2.2.2.2.2.2.1) && true))) && (((x.1.2.2.2.2.2.2.2.2.2.2.1 == x.2.2.2.2.2.2.2.2.2.2.2.1) && ((x.1.2.2.2.2.2.2.2.2.2.2.2.1 == x.2.2.2.2.2.2.2.2.2.2.2.2.1) && ((x.1.2.2.2.2.2.2.2.2.2.2.2.2.1 == x.2.2.2.2.2.2.2.2.2.2.2.2.2.1) && true))) && true)) && true))))) with | true => (match ((x.1.2.2.2.2.2.2.2.2.2.2.2.2.2.1 == x.2.2.2.2.2.2.2.2.2.2.2.2.2.2.1) && ((x.1.2.2.2.2.2.2.2.2.2.2.2.2.2.2.1 == x.2.2.2.2.2.2.2.2.2.2.2.2.2.2.2.1) && true)) with | true => (k (x.1.2.2.2.2.2.2.2.2.2.2.2.2.2.2.2.1 == x.2.2.2.2.2.2.2.2.2.2.2.2.2.2.2.2.1)) | false => (k false)) | false => (k false)) | false => (k false)) | none => none)
abbrev zs2 (N : Nat) (x : RT3 × RT3) : Option (Bool) := (zk8 N).d x
theorem zs3 (N : Nat) : Zc (zk8 N).t := by
 intro x α β k k' r r' h h1
 revert h
 dsimp only [zk8]
 (repeat' (first | (with_reducible refine ze ?_ ?_) | split)) <;> intro h <;> first | exact h1 _ h | cases h
theorem zs4 (N : Nat) : Ze (zn qP) (zDN N) zwL (lam N []) Tryz.f58 (zk8 N) := fun x => by kernel_rfl
def zBl (N : Nat) : Ent qP := zx (zd qP) (zi _) zl 58 Tryz.f58 Tryz.func58 rfl zwL (lam N []) (zm (l := []) an (by kernel_rfl)) (zk8 N) (fun _ => ⟨rfl, rfl⟩) (zs4 N) (fun _ _ _ h => zu h (fun _ _ => rfl) (fun _ _ => rfl)) (zs3 N)
def zwC : Nat -> Keep × Keep := anL []
def zDF (N : Nat) : GamK := gam (P := qP) [zBl N]
def zkY (N : Nat) : FSpec where
 X := RT0 × RT0
 Y := Bool
 ash := [[none, none, none, none, none, none, none, none, none, some 9, none, none, none, none, none, none, none, none, none, none, none, none, none, none, none], [none, none, none, none, none, none, none, none, none, some 9, none, none, none, none, none, none, none, none, none, none, none, none, none, none, none]]
 S := ⟨[[none]], [], [], [], []⟩
 pat := fun a b => rdA [.agg RK0, .agg RK0] [] a b fun ⟨a0, a1, _⟩ _ => (a0, a1)
 args := fun x => [(AV.agg (zB x.1)), (AV.agg (zB x.2))]
 ret := fun y => ⟨(AV.v (.bool y)), [], none, [], [], [], none⟩
 t := fun x α k => (match (((x.1.1 == x.2.1) && ((x.1.2.1 == x.2.2.1) && ((x.1.2.2.1 == x.2.2.2.1) && ((x.1.2.2.2.1 == x.2.2.2.2.1) && true)))) && ((x.1.2.2.2.2.1 == x.2.2.2.2.2.1) && ((x.1.2.2.2.2.2.1 == x.2.2.2.2.2.2.1) && ((x.1.2.2.2.2.2.2.1 == x.2.2.2.2.2.2.2.1) && ((x.1.2.2.2.2.2.2.2.1 == x.2.2.2.2.2.2.2.2.1) && ((x.1.2.2.2.2.2.2.2.2.1 == x.2.2.2.2.2.2.2.2.2.1) && true)))))) with | true => (match zs2 N ((zH x.1), (zH x.2)) with | some y1 => (k y1) | none => none) | false => (k false))
abbrev zc6 (N : Nat) (x : RT0 × RT0) : Option (Bool) := (zkY N).d x
theorem zsF (N : Nat) : Zc (zkY N).t := by
 intro x α β k k' r r' h h1
 revert h
 dsimp only [zkY]
 (repeat' (first | (with_reducible refine ze ?_ ?_) | split)) <;> intro h <;> first | exact h1 _ h | cases h
theorem zsG (N : Nat) : Ze (zn qP) (zDF N) zwC (lam N []) Tryz.f49 (zkY N) := fun x => by kernel_rfl
def zyp (N : Nat) : Ent qP := zx (zd qP) (zi _) zl 49 Tryz.f49 Tryz.func49 rfl zwC (lam N []) (zm (l := []) an (by kernel_rfl)) (zkY N) (fun _ => ⟨rfl, rfl⟩) (zsG N) (fun _ _ _ h => zu h (fun _ _ => rfl) (fun _ _ => rfl)) (zsF N)
def zb2 : Nat -> Keep × Keep := anL [(4, qK [0, 3] [] [], qK [0, 2] [] [])]
def zBG (N : Nat) : GamK := gam (P := qP) []
def zdf (N : Nat) : LSpec where
 X := ByteArray × Int
 Y := (ByteArray × Bool) ⊕ (ByteArray)
 p := fun s => rdS 28 0 [(0, .str), (3, .int .i64)] [] s fun ⟨a0, a1, _⟩ _ => (a0, a1)
 st := fun u4 => mkS 28 [(0, (AV.v (.string u4.1))), (3, (qI u4.2))] [] (zb2 4).1.toks 0
 out := fun y => match y with
  | .inl y => (.ret, mkS 28 [(0, (AV.v (.string y.1))), (2, (AV.v (.bool y.2)))] [] (zb2 4).2.toks 0)
  | .inr y => (.exit 0, mkS 28 [(0, (AV.v (.string y)))] [] (zb2 4).2.toks 0)
 b := fun u4 α kn ke => (match (decide (u4.2 < (u4.1.size : Int))) with | true => (if 0 <= u4.2 then (match u4.1[u4.2.toNat]? with | some c1 => (match (decide ((c1.toNat : Int) < 97)) with | true => (ke (.inl (u4.1, false))) | false => (if 0 <= u4.2 then (match u4.1[u4.2.toNat]? with | some c2 => (match (decide ((c2.toNat : Int) > 122)) with | true => (ke (.inl (u4.1, false))) | false => (kn (u4.1, (i64 (u4.2 + 1))))) | none => none) else none)) | none => none) else none) | false => (ke (.inr u4.1)))
abbrev zBE (N : Nat) (x : ByteArray × Int) : Option ((ByteArray × Bool) ⊕ (ByteArray)) := (zdf N).L N x
def zpG (N : Nat) : FSpec where
 X := ByteArray
 Y := Bool
 ash := [[none]]
 S := ⟨[[none]], [], [], [], []⟩
 pat := fun a b => rdA [.str] [] a b fun ⟨a0, _⟩ _ => a0
 args := fun x => [(AV.v (.string x))]
 ret := fun y => ⟨(AV.v (.bool y)), [], none, [], [], [], none⟩
 t := fun x α k => (match zBE N (x, 0) with | some y3 => (match y3 with | .inl z4 => (k z4.2) | .inr z5 => (match (decide ((z5.size : Int) >= 1)) with | true => (k (decide ((z5.size : Int) <= 16))) | false => (k false))) | none => none)
abbrev zt5 (N : Nat) (x : ByteArray) : Option (Bool) := (zpG N).d x
def zgQ (N : Nat) : List (Nat × LSpec) := [(4, zdf N)]
def zt4 : Code := Tryz.f84.body.getD .skip
theorem zt6 (N : Nat) : Par (zdf N).b := by
 intro x α β kn ke kn' ke' r r' h h1 h2
 revert h
 dsimp only [zdf]
 (repeat' (first | (with_reducible refine ze ?_ ?_) | split)) <;> intro h <;> first | exact h1 _ h | exact h2 _ h | cases h
theorem zpE (N : Nat) : je (zn qP) (zBG N) zb2 N (zgQ N) 4 zt4 (zdf N) := fun x α kn ke => by kernel_rfl
theorem zpF (N : Nat) : ZE qP zb2 N (zgQ N) 4 (zc 4 zt4) :=
 zC (zd qP) (zi _) zl zb2 N (zgQ N) 4 zt4 (l := []) (by kernel_rfl) (by kernel_rfl) an (zdf N) rfl (fun s x hc h => by dsimp only [zdf] at h; exact zI hc h (fun _ _ => rfl) rfl rfl rfl) (fun _ => rfl) (zpE N) (zt6 N)
theorem zt7 (N : Nat) : Zc (zpG N).t := by
 intro x α β k k' r r' h h1
 revert h
 dsimp only [zpG]
 (repeat' (first | (with_reducible refine ze ?_ ?_) | split)) <;> intro h <;> first | exact h1 _ h | cases h
theorem zt8 (N : Nat) : Ze (zn qP) (zBG N) zb2 (lam N (zgQ N)) Tryz.f84 (zpG N) := fun x => by kernel_rfl
def zBF (N : Nat) : Ent qP := zx (zd qP) (zi _) zl 84 Tryz.f84 Tryz.func84 rfl zb2 (lam N (zgQ N)) (zm (l := [(4, zc 4 zt4)]) (al (zpF N) an) (by kernel_rfl)) (zpG N) (fun _ => ⟨rfl, rfl⟩) (zt8 N) (fun _ _ _ h => zu h (fun _ _ => rfl) (fun _ _ => rfl)) (zt7 N)
def Ji : Nat -> Keep × Keep := anL [(4, qK [1, 2, 3, 7] [] [3], qK [3, 6] [] [3]), (16, ⟨[1, 2, 3, 7, 8], [], [3, 8], [], [], [], [], [], true, none, []⟩, qK [1, 2, 3, 6, 7, 8] [] [3, 8])]
def zyx (N : Nat) : GamK := gam (P := qP) [zyh N, zBF N, zEj N, zBH N, zyp N]
def Jr (N : Nat) : LSpec where
 X := Int × Int × Int × qL × RT7
 Y := (Int × Int × Bool × Int × qL × RT7) ⊕ (Int × Int × Int × qL × RT7)
 p := fun s => rdS 147 0 [(1, .int .i64), (2, .int .i64), (3, .ptr 3 0), (7, .int .i64), (8, .ptr 8 0)] [(3, .cells [.lst 29]), (8, .row RK7)] s fun ⟨a0, a1, _, a2, _, _⟩ ⟨⟨a3, _⟩, a4, _⟩ => (a0, a1, a2, a3, a4)
 st := fun u16 => mkS 147 [(1, (qI u16.1)), (2, (qI u16.2.1)), (3, (AV.ptr 3 0)), (7, (qI u16.2.2.1)), (8, (AV.ptr 8 0))] [(3, [(AV.list 29 u16.2.2.2.1 none)]), (8, (zK u16.2.2.2.2))] (Ji 16).1.toks 0
 out := fun y => match y with
  | .inl y => (.ret, mkS 147 [(1, (qI y.1)), (2, (qI y.2.1)), (3, (AV.ptr 3 0)), (6, (AV.v (.bool y.2.2.1))), (7, (qI y.2.2.2.1)), (8, (AV.ptr 8 0))] [(3, [(AV.list 29 y.2.2.2.2.1 none)]), (8, (zK y.2.2.2.2.2))] (Ji 16).2.toks 0)
  | .inr y => (.normal, mkS 147 [(1, (qI y.1)), (2, (qI y.2.1)), (3, (AV.ptr 3 0)), (7, (qI y.2.2.1)), (8, (AV.ptr 8 0))] [(3, [(AV.list 29 y.2.2.2.1 none)]), (8, (zK y.2.2.2.2))] (Ji 16).2.toks 0)
 b := fun u16 α kn ke => (match (u16.2.2.2.2.1 == 1) with | true => (match (!(u16.2.2.2.2.2.2.1.toList == (⟨#[]⟩ : ByteArray).toList)) with | true => (ke (.inl (u16.1, u16.2.1, false, u16.2.2))) | false => (ke (.inr u16))) | false => (match (u16.2.2.2.2.1 == 2) with | true => (match (!(u16.2.2.2.2.2.2.1.toList == (⟨#[]⟩ : ByteArray).toList)) with | true => (ke (.inl (u16.1, u16.2.1, false, u16.2.2))) | false => (match (!(u16.2.2.2.2.1 == 2)) with | true => (match zt5 N u16.2.2.2.2.2.2.1 with | some y8 => (match (!y8) with | true => (ke (.inl (u16.1, u16.2.1, false, u16.2.2))) | false => (ke (.inr u16))) | none => none) | false => (ke (.inr u16)))) | false => (match (!(u16.2.2.2.2.1 == 2)) with | true => (match zt5 N u16.2.2.2.2.2.2.1 with | some y9 => (match (!y9) with | true => (ke (.inl (u16.1, u16.2.1, false, u16.2.2))) | false => (ke (.inr u16))) | none => none) | false => (ke (.inr u16)))))
abbrev zoT (N : Nat) (x : Int × Int × Int × qL × RT7) : Option ((Int × Int × Bool × Int × qL × RT7) ⊕ (Int × Int × Int × qL × RT7)) := (Jr N).L N x
def jJ (N : Nat) : LSpec where
 X := Int × Int × Int × qL
 Y := (Bool × qL) ⊕ (qL)
 p := fun s => rdS 147 0 [(1, .int .i64), (2, .int .i64), (3, .ptr 3 0), (7, .int .i64)] [(3, .cells [.lst 29])] s fun ⟨a0, a1, _, a2, _⟩ ⟨⟨a3, _⟩, _⟩ => (a0, a1, a2, a3)
 st := fun u4 => mkS 147 [(1, (qI u4.1)), (2, (qI u4.2.1)), (3, (AV.ptr 3 0)), (7, (qI u4.2.2.1))] [(3, [(AV.list 29 u4.2.2.2 none)])] (Ji 4).1.toks 0
 out := fun y => match y with
  | .inl y => (.ret, mkS 147 [(3, (AV.ptr 3 0)), (6, (AV.v (.bool y.1)))] [(3, [(AV.list 29 y.2 none)])] (Ji 4).2.toks 0)
  | .inr y => (.exit 0, mkS 147 [(3, (AV.ptr 3 0))] [(3, [(AV.list 29 y none)])] (Ji 4).2.toks 0)
 b := fun u4 α kn ke => (match (decide (u4.2.2.1 < (u4.2.2.2.length : Int))) with | true => (if 0 <= u4.2.2.1 then (match u4.2.2.2[u4.2.2.1.toNat]? with | some c33 => (match zlD c33 with | some e34 => (match (decide (e34.1 < 1)) with | true => (ke (.inl (false, u4.2.2.2))) | false => (match (decide (e34.1 > 6)) with | true => (ke (.inl (false, u4.2.2.2))) | false => (match (decide (e34.2.1 < 0)) with | true => (ke (.inl (false, u4.2.2.2))) | false => (match (decide (e34.2.1 > 18014398509481984)) with | true => (ke (.inl (false, u4.2.2.2))) | false => (match zfr N ([(zB (zw e34))]) with | some y35 => (match (!y35) with | true => (ke (.inl (false, u4.2.2.2))) | false => (match zoT N (u4.1, u4.2.1, u4.2.2.1, u4.2.2.2, e34) with | some y36 => (match y36 with | .inl z37 => (ke (.inl (z37.2.2.1, z37.2.2.2.2.1))) | .inr z38 => (match (z38.2.2.2.2.1 != 5) with | true => (match (z38.2.2.2.2.2.2.2.1 != 0) with | true => (ke (.inl (false, z38.2.2.2.1))) | false => (match (z38.2.2.2.2.1 == 5) with | true => (match (decide (z38.2.2.2.2.2.2.2.1 < 0)) with | true => (ke (.inl (false, z38.2.2.2.1))) | false => (match (decide (z38.2.2.2.2.2.2.2.1 >= z38.2.1)) with | true => (ke (.inl (false, z38.2.2.2.1))) | false => (match (z38.2.2.2.2.2.2.2.1 == z38.1) with | true => (ke (.inl (false, z38.2.2.2.1))) | false => (match (z38.2.2.1 == 0) with | true => (match (z38.2.2.2.2.1 != 1) with | true => (ke (.inl (false, z38.2.2.2.1))) | false => (kn (z38.1, z38.2.1, (i64 (z38.2.2.1 + 1)), z38.2.2.2.1))) | false => (if 0 <= (i64 (z38.2.2.1 - 1)) then (match z38.2.2.2.1[(i64 (z38.2.2.1 - 1)).toNat]? with | some c39 => (match zlD c39 with | some e40 => (match (decide (z38.2.2.2.2.2.1 < e40.2.1)) with | true => (ke (.inl (false, z38.2.2.2.1))) | false => (match zly N (z38.2.2.2.2, e40) with | some y41 => (match (!y41) with | true => (ke (.inl (false, z38.2.2.2.1))) | false => (match zh0 N z38.2.2.2.2.1 with | some y42 => (match y42 with | true => (match zc6 N ((zw e40), (zw z38.2.2.2.2)) with | some y43 => (match (!y43) with | true => (ke (.inl (false, z38.2.2.2.1))) | false => (kn (z38.1, z38.2.1, (i64 (z38.2.2.1 + 1)), z38.2.2.2.1))) | none => none) | false => (kn (z38.1, z38.2.1, (i64 (z38.2.2.1 + 1)), z38.2.2.2.1))) | none => none)) | none => none)) | none => none) | none => none) else none))))) | false => (match (z38.2.2.1 == 0) with | true => (match (z38.2.2.2.2.1 != 1) with | true => (ke (.inl (false, z38.2.2.2.1))) | false => (kn (z38.1, z38.2.1, (i64 (z38.2.2.1 + 1)), z38.2.2.2.1))) | false => (if 0 <= (i64 (z38.2.2.1 - 1)) then (match z38.2.2.2.1[(i64 (z38.2.2.1 - 1)).toNat]? with | some c44 => (match zlD c44 with | some e45 => (match (decide (z38.2.2.2.2.2.1 < e45.2.1)) with | true => (ke (.inl (false, z38.2.2.2.1))) | false => (match zly N (z38.2.2.2.2, e45) with | some y46 => (match (!y46) with | true => (ke (.inl (false, z38.2.2.2.1))) | false => (match zh0 N z38.2.2.2.2.1 with | some y47 => (match y47 with | true => (match zc6 N ((zw e45), (zw z38.2.2.2.2)) with | some y48 => (match (!y48) with | true => (ke (.inl (false, z38.2.2.2.1))) | false => (kn (z38.1, z38.2.1, (i64 (z38.2.2.1 + 1)), z38.2.2.2.1))) | none => none) | false => (kn (z38.1, z38.2.1, (i64 (z38.2.2.1 + 1)), z38.2.2.2.1))) | none => none)) | none => none)) | none => none) | none => none) else none)))) | false => (match (z38.2.2.2.2.1 == 5) with | true => (match (decide (z38.2.2.2.2.2.2.2.1 < 0)) with | true => (ke (.inl (false, z38.2.2.2.1))) | false => (match (decide (z38.2.2.2.2.2.2.2.1 >= z38.2.1)) with | true => (ke (.inl (false, z38.2.2.2.1))) | false => (match (z38.2.2.2.2.2.2.2.1 == z38.1) with | true => (ke (.inl (false, z38.2.2.2.1))) | false => (match (z38.2.2.1 == 0) with | true => (match (z38.2.2.2.2.1 != 1) with | true => (ke (.inl (false, z38.2.2.2.1))) | false => (kn (z38.1, z38.2.1, (i64 (z38.2.2.1 + 1)), z38.2.2.2.1))) | false => (if 0 <= (i64 (z38.2.2.1 - 1)) then (match z38.2.2.2.1[(i64 (z38.2.2.1 - 1)).toNat]? with | some c49 => (match zlD c49 with | some e50 => (match (decide (z38.2.2.2.2.2.1 < e50.2.1)) with | true => (ke (.inl (false, z38.2.2.2.1))) | false => (match zly N (z38.2.2.2.2, e50) with | some y51 => (match (!y51) with | true => (ke (.inl (false, z38.2.2.2.1))) | false => (match zh0 N z38.2.2.2.2.1 with | some y52 => (match y52 with | true => (match zc6 N ((zw e50), (zw z38.2.2.2.2)) with | some y53 => (match (!y53) with | true => (ke (.inl (false, z38.2.2.2.1))) | false => (kn (z38.1, z38.2.1, (i64 (z38.2.2.1 + 1)), z38.2.2.2.1))) | none => none) | false => (kn (z38.1, z38.2.1, (i64 (z38.2.2.1 + 1)), z38.2.2.2.1))) | none => none)) | none => none)) | none => none) | none => none) else none))))) | false => (match (z38.2.2.1 == 0) with | true => (match (z38.2.2.2.2.1 != 1) with | true => (ke (.inl (false, z38.2.2.2.1))) | false => (kn (z38.1, z38.2.1, (i64 (z38.2.2.1 + 1)), z38.2.2.2.1))) | false => (if 0 <= (i64 (z38.2.2.1 - 1)) then (match z38.2.2.2.1[(i64 (z38.2.2.1 - 1)).toNat]? with | some c54 => (match zlD c54 with | some e55 => (match (decide (z38.2.2.2.2.2.1 < e55.2.1)) with | true => (ke (.inl (false, z38.2.2.2.1))) | false => (match zly N (z38.2.2.2.2, e55) with | some y56 => (match (!y56) with | true => (ke (.inl (false, z38.2.2.2.1))) | false => (match zh0 N z38.2.2.2.2.1 with | some y57 => (match y57 with | true => (match zc6 N ((zw e55), (zw z38.2.2.2.2)) with | some y58 => (match (!y58) with | true => (ke (.inl (false, z38.2.2.2.1))) | false => (kn (z38.1, z38.2.1, (i64 (z38.2.2.1 + 1)), z38.2.2.2.1))) | none => none) | false => (kn (z38.1, z38.2.1, (i64 (z38.2.2.1 + 1)), z38.2.2.2.1))) | none => none)) | none => none)) | none => none) | none => none) else none))))) | none => none)) | none => none))))) | none => none) | none => none) else none) | false => (ke (.inr u4.2.2.2)))
abbrev zwN (N : Nat) (x : Int × Int × Int × qL) : Option ((Bool × qL) ⊕ (qL)) := (jJ N).L N x
def zec (N : Nat) : FSpec where
 X := qL × Int × Int
 Y := Bool
 ash := [[some 29], [none], [none]]
 S := ⟨[[none]], [], [], [], []⟩
 pat := fun a b => zj a fun v1 c2 => Z3 v1 fun c3 => zj c3 fun c4 c5 => Z1 29 c4 fun a0 => zR c5 <| zj c2 fun v6 c7 => jQ .i64 v6 fun a1 => zj c7 fun v8 c9 => jQ .i64 v8 fun a2 => zR c9 <| zR b <| some (a0, a1, a2)
 args := fun x => [(AV.agg [(AV.list 29 x.1 none)]), (AV.v (.int .i64 x.2.1)), (AV.v (.int .i64 x.2.2))]
 ret := fun y => ⟨(AV.v (.bool y)), [], none, [], [], [], none⟩
 t := fun x α k => (match zwN N (x.2.1, x.2.2, 0, x.1) with | some y59 => (match y59 with | .inl z60 => (k z60.1) | .inr z61 => (match (decide ((z61.length : Int) >= 1)) with | true => (k (decide ((z61.length : Int) <= 100))) | false => (k false))) | none => none)
abbrev zyw (N : Nat) (x : qL × Int × Int) : Option (Bool) := (zec N).d x
def zbT (N : Nat) : List (Nat × LSpec) := [(4, jJ N), (16, Jr N)]
def zfw : Code := Tryz.f60.body.getD .skip
theorem zoV (N : Nat) : Par (Jr N).b := by
 intro x α β kn ke kn' ke' r r' h h1 h2
 revert h
 dsimp only [Jr]
 (repeat' (first | (with_reducible refine ze ?_ ?_) | split)) <;> intro h <;> first | exact h1 _ h | exact h2 _ h | cases h
theorem zk9 (N : Nat) : zmd (zn qP) (zyx N) Ji N (zbT N) 16 zfw (Jr N) := fun x α kn ke => by kernel_rfl
theorem zeI (N : Nat) : ZE qP Ji N (zbT N) 16 (zc 16 zfw) :=
 j9 (zd qP) (zi _) zl Ji N (zbT N) 16 zfw (l := []) (by kernel_rfl) an (Jr N) rfl (fun s x hc h => by dsimp only [Jr] at h; exact zI hc h (fun _ _ => rfl) rfl rfl rfl) (zk9 N) (zoV N)
theorem zs7 (N : Nat) : Par (jJ N).b := by
 intro x α β kn ke kn' ke' r r' h h1 h2
 revert h
 dsimp only [jJ]
 (repeat' (first | (with_reducible refine ze ?_ ?_) | split)) <;> intro h <;> first | exact h1 _ h | exact h2 _ h | cases h
theorem zoS (N : Nat) : je (zn qP) (zyx N) Ji N (zbT N) 4 zfw (jJ N) := fun x α kn ke => by kernel_rfl
theorem zoU (N : Nat) : ZE qP Ji N (zbT N) 4 (zc 4 zfw) :=
 zC (zd qP) (zi _) zl Ji N (zbT N) 4 zfw (l := [(16, zc 16 zfw)]) (by kernel_rfl) (by kernel_rfl) (al (zeI N) an) (jJ N) rfl (fun s x hc h => by dsimp only [jJ] at h; exact zI hc h (fun _ _ => rfl) rfl rfl rfl) (fun _ => rfl) (zoS N) (zs7 N)
theorem zs8 (N : Nat) : Zc (zec N).t := by
 intro x α β k k' r r' h h1
 revert h
 dsimp only [zec]
 (repeat' (first | (with_reducible refine ze ?_ ?_) | split)) <;> intro h <;> first | exact h1 _ h | cases h
theorem zs9 (N : Nat) : Ze (zn qP) (zyx N) Ji (lam N (zbT N)) Tryz.f60 (zec N) := fun x => by kernel_rfl
theorem zyy (N : Nat) (a : List AV) (b : qL) (x : (zec N).X) (h : (zec N).pat a b = some x) : a = (zec N).args x /\ b = (zec N).bs x := by
 obtain ⟨v1, c2, rfl, g0⟩ := zb (show zj _ _ = some x from h)
 obtain ⟨c3, rfl, g1⟩ := zO g0; clear g0
 obtain ⟨c4, c5, rfl, g2⟩ := zb g1; clear g1
 obtain ⟨a0, rfl, g3⟩ := zq g2; clear g2
 obtain ⟨rfl, g4⟩ := zg g3; clear g3
 obtain ⟨v6, c7, rfl, g5⟩ := zb g4; clear g4
 obtain ⟨a1, rfl, g6⟩ := zA g5; clear g5
 obtain ⟨v8, c9, rfl, g7⟩ := zb g6; clear g6
 obtain ⟨a2, rfl, g8⟩ := zA g7; clear g7
 obtain ⟨rfl, g9⟩ := zg g8; clear g8
 obtain ⟨rfl, g10⟩ := zg g9; clear g9
 clear h
 cases g10
 exact ⟨rfl, rfl⟩
def zDQ (N : Nat) : Ent qP := zx (zd qP) (zi _) zl 60 Tryz.f60 Tryz.func60 rfl Ji (lam N (zbT N)) (zm (l := [(4, zc 4 zfw), (16, zc 16 zfw)]) (al (zoU N) (al (zeI N) an)) (by kernel_rfl)) (zec N) (fun _ => ⟨rfl, rfl⟩) (zs9 N) (zyy N) (zs8 N)
def zbO : Nat -> Keep × Keep := anL [(4, qK [1, 3] [] [1], qK [1, 2] [] [1])]
def zA2 (N : Nat) : GamK := gam (P := qP) [zDQ N]
def jG (N : Nat) : LSpec where
 X := Int × qL
 Y := (Bool × qL) ⊕ (qL)
 p := fun s => rdS 26 0 [(1, .ptr 1 0), (3, .int .i64)] [(1, .cells [.lst 1])] s fun ⟨_, a0, _⟩ ⟨⟨a1, _⟩, _⟩ => (a0, a1)
 st := fun u4 => mkS 26 [(1, (AV.ptr 1 0)), (3, (qI u4.1))] [(1, [(AV.list 1 u4.2 none)])] (zbO 4).1.toks 0
 out := fun y => match y with
  | .inl y => (.ret, mkS 26 [(1, (AV.ptr 1 0)), (2, (AV.v (.bool y.1)))] [(1, [(AV.list 1 y.2 none)])] (zbO 4).2.toks 0)
  | .inr y => (.exit 0, mkS 26 [(1, (AV.ptr 1 0))] [(1, [(AV.list 1 y none)])] (zbO 4).2.toks 0)
 b := fun u4 α kn ke => (match (decide (u4.1 < (u4.2.length : Int))) with | true => (if 0 <= u4.1 then (match u4.2[u4.1.toNat]? with | some c4 => (match zgc c4 with | some e5 => (match zyw N (e5.1, u4.1, (u4.2.length : Int)) with | some y6 => (match (!y6) with | true => (ke (.inl (false, u4.2))) | false => (kn ((i64 (u4.1 + 1)), u4.2))) | none => none) | none => none) | none => none) else none) | false => (ke (.inr u4.2)))
abbrev zwt (N : Nat) (x : Int × qL) : Option ((Bool × qL) ⊕ (qL)) := (jG N).L N x
def zd5 (N : Nat) : FSpec where
 X := qL
 Y := Bool
 ash := [[some 1]]
 S := ⟨[[none]], [], [], [], []⟩
 pat := fun a b => zj a fun v1 c2 => Z3 v1 fun c3 => zj c3 fun c4 c5 => Z1 1 c4 fun a0 => zR c5 <| zR c2 <| zR b <| some a0
 args := fun x => [(AV.agg [(AV.list 1 x none)])]
 ret := fun y => ⟨(AV.v (.bool y)), [], none, [], [], [], none⟩
 t := fun x α k => (match zwt N (0, x) with | some y7 => (match y7 with | .inl z8 => (k z8.1) | .inr z9 => (k (decide ((z9.length : Int) <= 500)))) | none => none)
abbrev zr6 (N : Nat) (x : qL) : Option (Bool) := (zd5 N).d x
def zgC (N : Nat) : List (Nat × LSpec) := [(4, jG N)]
def zr5 : Code := Tryz.f32.body.getD .skip
theorem zr7 (N : Nat) : Par (jG N).b := by
 intro x α β kn ke kn' ke' r r' h h1 h2
 revert h
 dsimp only [jG]
 (repeat' (first | (with_reducible refine ze ?_ ?_) | split)) <;> intro h <;> first | exact h1 _ h | exact h2 _ h | cases h
theorem znY (N : Nat) : je (zn qP) (zA2 N) zbO N (zgC N) 4 zr5 (jG N) := fun x α kn ke => by kernel_rfl
theorem znZ (N : Nat) : ZE qP zbO N (zgC N) 4 (zc 4 zr5) :=
 zC (zd qP) (zi _) zl zbO N (zgC N) 4 zr5 (l := []) (by kernel_rfl) (by kernel_rfl) an (jG N) rfl (fun s x hc h => by dsimp only [jG] at h; exact zI hc h (fun _ _ => rfl) rfl rfl rfl) (fun _ => rfl) (znY N) (zr7 N)
theorem zr8 (N : Nat) : Zc (zd5 N).t := by
 intro x α β k k' r r' h h1
 revert h
 dsimp only [zd5]
 (repeat' (first | (with_reducible refine ze ?_ ?_) | split)) <;> intro h <;> first | exact h1 _ h | cases h
theorem zr9 (N : Nat) : Ze (zn qP) (zA2 N) zbO (lam N (zgC N)) Tryz.f32 (zd5 N) := fun x => by kernel_rfl
theorem zyf (N : Nat) (a : List AV) (b : qL) (x : (zd5 N).X) (h : (zd5 N).pat a b = some x) : a = (zd5 N).args x /\ b = (zd5 N).bs x := by
 obtain ⟨v1, c2, rfl, g0⟩ := zb (show zj _ _ = some x from h)
 obtain ⟨c3, rfl, g1⟩ := zO g0; clear g0
 obtain ⟨c4, c5, rfl, g2⟩ := zb g1; clear g1
 obtain ⟨a0, rfl, g3⟩ := zq g2; clear g2
 obtain ⟨rfl, g4⟩ := zg g3; clear g3
 obtain ⟨rfl, g5⟩ := zg g4; clear g4
 obtain ⟨rfl, g6⟩ := zg g5; clear g5
 clear h
 cases g6
 exact ⟨rfl, rfl⟩
def zA1 (N : Nat) : Ent qP := zx (zd qP) (zi _) zl 32 Tryz.f32 Tryz.func32 rfl zbO (lam N (zgC N)) (zm (l := [(4, zc 4 zr5)]) (al (znZ N) an) (by kernel_rfl)) (zd5 N) (fun _ => ⟨rfl, rfl⟩) (zr9 N) (zyf N) (zr8 N)
def zbZ : Nat -> Keep × Keep := anL [(4, ⟨[3, 5], [], [3], [(0, 25)], [], [], [], [], false, none, []⟩, qK [4] [] [])]
def zBz (N : Nat) : GamK := gam (P := qP) []
def Z8 (N : Nat) : LSpec where
 X := qL × Int × RT1
 Y := (Int) ⊕ (Unit)
 p := fun s => rdS 20 0 [(0, .lst 25), (3, .ptr 3 0), (5, .int .i64)] [(3, .row RK1)] s fun ⟨a0, _, a1, _⟩ ⟨a2, _⟩ => (a0, a1, a2)
 st := fun u4 => mkS 20 [(0, (AV.list 25 u4.1 none)), (3, (AV.ptr 3 0)), (5, (qI u4.2.1))] [(3, (zy u4.2.2))] (zbZ 4).1.toks 0
 out := fun y => match y with
  | .inl y => (.ret, mkS 20 [(4, (qI y))] [] (zbZ 4).2.toks 0)
  | .inr y => (.exit 0, mkS 20 [] [] (zbZ 4).2.toks 0)
 b := fun u4 α kn ke => (match (decide (u4.2.1 < (u4.1.length : Int))) with | true => (if 0 <= u4.2.1 then (match u4.1[u4.2.1.toNat]? with | some c1 => (match Jv (c1.drop 0) with | some e2 => (match (((e2.1 == u4.2.2.1) && ((e2.2.1 == u4.2.2.2.1) && ((e2.2.2.1 == u4.2.2.2.2.1) && ((e2.2.2.2.1 == u4.2.2.2.2.2.1) && true)))) && ((e2.2.2.2.2.1 == u4.2.2.2.2.2.2.1) && ((e2.2.2.2.2.2.1 == u4.2.2.2.2.2.2.2.1) && ((e2.2.2.2.2.2.2.1 == u4.2.2.2.2.2.2.2.2.1) && ((e2.2.2.2.2.2.2.2.1 == u4.2.2.2.2.2.2.2.2.2.1) && ((e2.2.2.2.2.2.2.2.2.1 == u4.2.2.2.2.2.2.2.2.2.2.1) && true)))))) with | true => (ke (.inl u4.2.1)) | false => (kn (u4.1, (i64 (u4.2.1 + 1)), u4.2.2))) | none => none) | none => none) else none) | false => (ke (.inr ())))
abbrev zw2 (N : Nat) (x : qL × Int × RT1) : Option ((Int) ⊕ (Unit)) := (Z8 N).L N x
def zlp (N : Nat) : FSpec where
 X := qL × RT1
 Y := Int
 ash := [[some 25], [none, none, none, none, none, none, none, none, none]]
 S := ⟨[[none]], [], [], [], []⟩
 pat := fun a b => rdA [.lst 25, .agg RK1] [] a b fun ⟨a0, a1, _⟩ _ => (a0, a1)
 args := fun x => [(AV.list 25 x.1 none), (AV.agg (zy x.2))]
 ret := fun y => ⟨(AV.v (.int .i64 y)), [], none, [], [], [], none⟩
 t := fun x α k => (match zw2 N (x.1, 0, x.2) with | some y3 => (match y3 with | .inl z4 => (k z4) | .inr z5 => (k (-1))) | none => none)
abbrev ztN (N : Nat) (x : qL × RT1) : Option (Int) := (zlp N).d x
def zgO (N : Nat) : List (Nat × LSpec) := [(4, Z8 N)]
def ztM : Code := Tryz.f79.body.getD .skip
theorem ztO (N : Nat) : Par (Z8 N).b := by
 intro x α β kn ke kn' ke' r r' h h1 h2
 revert h
 dsimp only [Z8]
 (repeat' (first | (with_reducible refine ze ?_ ?_) | split)) <;> intro h <;> first | exact h1 _ h | exact h2 _ h | cases h
theorem zpv (N : Nat) : je (zn qP) (zBz N) zbZ N (zgO N) 4 ztM (Z8 N) := fun x α kn ke => by kernel_rfl
theorem zpw (N : Nat) : ZE qP zbZ N (zgO N) 4 (zc 4 ztM) :=
 zC (zd qP) (zi _) zl zbZ N (zgO N) 4 ztM (l := []) (by kernel_rfl) (by kernel_rfl) an (Z8 N) rfl (fun s x hc h => by dsimp only [Z8] at h; exact zI hc h (fun _ _ => rfl) rfl rfl rfl) (fun _ => rfl) (zpv N) (ztO N)
theorem ztP (N : Nat) : Zc (zlp N).t := by
 intro x α β k k' r r' h h1
 revert h
 dsimp only [zlp]
 (repeat' (first | (with_reducible refine ze ?_ ?_) | split)) <;> intro h <;> first | exact h1 _ h | cases h
theorem ztQ (N : Nat) : Ze (zn qP) (zBz N) zbZ (lam N (zgO N)) Tryz.f79 (zlp N) := fun x => by kernel_rfl
def zD4 (N : Nat) : Ent qP := zx (zd qP) (zi _) zl 79 Tryz.f79 Tryz.func79 rfl zbZ (lam N (zgO N)) (zm (l := [(4, zc 4 ztM)]) (al (zpw N) an) (by kernel_rfl)) (zlp N) (fun _ => ⟨rfl, rfl⟩) (ztQ N) (fun _ _ _ h => zu h (fun _ _ => rfl) (fun _ _ => rfl)) (ztP N)
def zwP : Nat -> Keep × Keep := anL []
def zDT (N : Nat) : GamK := gam (P := qP) []
def zed (N : Nat) : FSpec where
 X := qL
 Y := RT7
 ash := [[some 29]]
 S := ⟨[[none, none, none, none, none, none, none, none, none, none, none, none, none, some 9, none, none, none, none, none, none, none, none, none, none, none, none, none, none, none]], [], [], [], []⟩
 pat := fun a b => zj a fun v1 c2 => Z3 v1 fun c3 => zj c3 fun c4 c5 => Z1 29 c4 fun a0 => zR c5 <| zR c2 <| zR b <| some a0
 args := fun x => [(AV.agg [(AV.list 29 x none)])]
 ret := fun y => ⟨(AV.agg (zK y)), [], none, [], [], [], none⟩
 t := fun x α k => (if 0 <= (i64 ((x.length : Int) - 1)) then (match x[(i64 ((x.length : Int) - 1)).toNat]? with | some c1 => (match zlD c1 with | some e2 => (k e2) | none => none) | none => none) else none)
abbrev zhS (N : Nat) (x : qL) : Option (RT7) := (zed N).d x
theorem ztd (N : Nat) : Zc (zed N).t := by
 intro x α β k k' r r' h h1
 revert h
 dsimp only [zed]
 (repeat' (first | (with_reducible refine ze ?_ ?_) | split)) <;> intro h <;> first | exact h1 _ h | cases h
theorem zte (N : Nat) : Ze (zn qP) (zDT N) zwP (lam N []) Tryz.f66 (zed N) := fun x => by kernel_rfl
theorem zyA (N : Nat) (a : List AV) (b : qL) (x : (zed N).X) (h : (zed N).pat a b = some x) : a = (zed N).args x /\ b = (zed N).bs x := by
 obtain ⟨v1, c2, rfl, g0⟩ := zb (show zj _ _ = some x from h)
 obtain ⟨c3, rfl, g1⟩ := zO g0; clear g0
 obtain ⟨c4, c5, rfl, g2⟩ := zb g1; clear g1
 obtain ⟨a0, rfl, g3⟩ := zq g2; clear g2
 obtain ⟨rfl, g4⟩ := zg g3; clear g3
 obtain ⟨rfl, g5⟩ := zg g4; clear g4
 obtain ⟨rfl, g6⟩ := zg g5; clear g5
 clear h
 cases g6
 exact ⟨rfl, rfl⟩
def ztc (N : Nat) : Ent qP := zx (zd qP) (zi _) zl 66 Tryz.f66 Tryz.func66 rfl zwP (lam N []) (zm (l := []) an (by kernel_rfl)) (zed N) (fun _ => ⟨rfl, rfl⟩) (zte N) (zyA N) (ztd N)
@[reducible] def zpY (e : RT7) : RT1 := (e.2.2.2.2.1, e.2.2.2.2.2.1, e.2.2.2.2.2.2.1, e.2.2.2.2.2.2.2.1, e.2.2.2.2.2.2.2.2.1, e.2.2.2.2.2.2.2.2.2.1, e.2.2.2.2.2.2.2.2.2.2.1, e.2.2.2.2.2.2.2.2.2.2.2.1, e.2.2.2.2.2.2.2.2.2.2.2.2.1, ())
def Jl : Nat -> Keep × Keep := anL [(4, ⟨[5], [], [], [(0, 9), (1, 9)], [], [], [], [], false, none, []⟩, qK [4] [] []), (12, ⟨[5, 6], [], [], [(0, 9), (1, 9)], [], [], [], [], false, none, []⟩, ⟨[4, 5], [], [], [(0, 9), (1, 9)], [], [], [], [], false, none, []⟩)]
def zyM (N : Nat) : GamK := gam (P := qP) []
def ZC (N : Nat) : LSpec where
 X := qL × qL × Int × Int
 Y := (qL × qL × Bool × Int) ⊕ (qL × qL × Int)
 p := fun s => rdS 28 0 [(0, .lst 9), (1, .lst 9), (5, .int .i64), (6, .int .i64)] [] s fun ⟨a0, a1, a2, a3, _⟩ _ => (a0, a1, a2, a3)
 st := fun u12 => mkS 28 [(0, (AV.list 9 u12.1 none)), (1, (AV.list 9 u12.2.1 none)), (5, (qI u12.2.2.1)), (6, (qI u12.2.2.2))] [] (Jl 12).1.toks 0
 out := fun y => match y with
  | .inl y => (.ret, mkS 28 [(0, (AV.list 9 y.1 none)), (1, (AV.list 9 y.2.1 none)), (4, (AV.v (.bool y.2.2.1))), (5, (qI y.2.2.2))] [] (Jl 12).2.toks 0)
  | .inr y => (.exit 2, mkS 28 [(0, (AV.list 9 y.1 none)), (1, (AV.list 9 y.2.1 none)), (5, (qI y.2.2))] [] (Jl 12).2.toks 0)
 b := fun u12 α kn ke => (match (decide (u12.2.2.2 < (u12.2.1.length : Int))) with | true => (if 0 <= u12.2.2.1 then (match u12.1[u12.2.2.1.toNat]? with | some c1 => (match Jv c1 with | some e2 => (if 0 <= u12.2.2.2 then (match u12.2.1[u12.2.2.2.toNat]? with | some c3 => (match Jv c3 with | some e4 => (match (((e2.1 == e4.1) && ((e2.2.1 == e4.2.1) && ((e2.2.2.1 == e4.2.2.1) && ((e2.2.2.2.1 == e4.2.2.2.1) && true)))) && ((e2.2.2.2.2.1 == e4.2.2.2.2.1) && ((e2.2.2.2.2.2.1 == e4.2.2.2.2.2.1) && ((e2.2.2.2.2.2.2.1 == e4.2.2.2.2.2.2.1) && ((e2.2.2.2.2.2.2.2.1 == e4.2.2.2.2.2.2.2.1) && ((e2.2.2.2.2.2.2.2.2.1 == e4.2.2.2.2.2.2.2.2.1) && true)))))) with | true => (ke (.inl (u12.1, u12.2.1, true, u12.2.2.1))) | false => (kn (u12.1, u12.2.1, u12.2.2.1, (i64 (u12.2.2.2 + 1))))) | none => none) | none => none) else none) | none => none) | none => none) else none) | false => (ke (.inr (u12.1, u12.2.1, u12.2.2.1))))
abbrev zhZ (N : Nat) (x : qL × qL × Int × Int) : Option ((qL × qL × Bool × Int) ⊕ (qL × qL × Int)) := (ZC N).L N x
def Z9 (N : Nat) : LSpec where
 X := qL × qL × Int
 Y := (Bool) ⊕ (Unit)
 p := fun s => rdS 28 0 [(0, .lst 9), (1, .lst 9), (5, .int .i64)] [] s fun ⟨a0, a1, a2, _⟩ _ => (a0, a1, a2)
 st := fun u4 => mkS 28 [(0, (AV.list 9 u4.1 none)), (1, (AV.list 9 u4.2.1 none)), (5, (qI u4.2.2))] [] (Jl 4).1.toks 0
 out := fun y => match y with
  | .inl y => (.ret, mkS 28 [(4, (AV.v (.bool y)))] [] (Jl 4).2.toks 0)
  | .inr y => (.exit 0, mkS 28 [] [] (Jl 4).2.toks 0)
 b := fun u4 α kn ke => (match (decide (u4.2.2 < (u4.1.length : Int))) with | true => (match zhZ N (u4.1, u4.2.1, u4.2.2, 0) with | some y5 => (match y5 with | .inl z6 => (ke (.inl z6.2.2.1)) | .inr z7 => (kn (z7.1, z7.2.1, (i64 (z7.2.2 + 1))))) | none => none) | false => (ke (.inr ())))
abbrev zw3 (N : Nat) (x : qL × qL × Int) : Option ((Bool) ⊕ (Unit)) := (Z9 N).L N x
def zlr (N : Nat) : FSpec where
 X := qL × qL
 Y := Bool
 ash := [[some 9], [some 9]]
 S := ⟨[[none]], [], [], [], []⟩
 pat := fun a b => rdA [.lst 9, .lst 9] [] a b fun ⟨a0, a1, _⟩ _ => (a0, a1)
 args := fun x => [(AV.list 9 x.1 none), (AV.list 9 x.2 none)]
 ret := fun y => ⟨(AV.v (.bool y)), [], none, [], [], [], none⟩
 t := fun x α k => (match zw3 N (x.1, x.2, 0) with | some y8 => (match y8 with | .inl z9 => (k z9) | .inr z10 => (k false)) | none => none)
abbrev ztR (N : Nat) (x : qL × qL) : Option (Bool) := (zlr N).d x
def zb0 (N : Nat) : List (Nat × LSpec) := [(4, Z9 N), (12, ZC N)]
def zfA : Code := Tryz.f80.body.getD .skip
theorem zpz (N : Nat) : Par (ZC N).b := by
 intro x α β kn ke kn' ke' r r' h h1 h2
 revert h
 dsimp only [ZC]
 (repeat' (first | (with_reducible refine ze ?_ ?_) | split)) <;> intro h <;> first | exact h1 _ h | exact h2 _ h | cases h
theorem zlq (N : Nat) : je (zn qP) (zyM N) Jl N (zb0 N) 12 zfA (ZC N) := fun x α kn ke => by kernel_rfl
theorem zeN (N : Nat) : ZE qP Jl N (zb0 N) 12 (zc 12 zfA) :=
 zC (zd qP) (zi _) zl Jl N (zb0 N) 12 zfA (l := []) (by kernel_rfl) (by kernel_rfl) an (ZC N) rfl (fun s x hc h => by dsimp only [ZC] at h; exact zI hc h (fun _ _ => rfl) rfl rfl rfl) (fun _ => rfl) (zlq N) (zpz N)
theorem ztS (N : Nat) : Par (Z9 N).b := by
 intro x α β kn ke kn' ke' r r' h h1 h2
 revert h
 dsimp only [Z9]
 (repeat' (first | (with_reducible refine ze ?_ ?_) | split)) <;> intro h <;> first | exact h1 _ h | exact h2 _ h | cases h
theorem zpx (N : Nat) : je (zn qP) (zyM N) Jl N (zb0 N) 4 zfA (Z9 N) := fun x α kn ke => by kernel_rfl
theorem zpy (N : Nat) : ZE qP Jl N (zb0 N) 4 (zc 4 zfA) :=
 zC (zd qP) (zi _) zl Jl N (zb0 N) 4 zfA (l := [(12, zc 12 zfA)]) (by kernel_rfl) (by kernel_rfl) (al (zeN N) an) (Z9 N) rfl (fun s x hc h => by dsimp only [Z9] at h; exact zI hc h (fun _ _ => rfl) rfl rfl rfl) (fun _ => rfl) (zpx N) (ztS N)
theorem ztT (N : Nat) : Zc (zlr N).t := by
 intro x α β k k' r r' h h1
 revert h
 dsimp only [zlr]
 (repeat' (first | (with_reducible refine ze ?_ ?_) | split)) <;> intro h <;> first | exact h1 _ h | cases h
theorem ztU (N : Nat) : Ze (zn qP) (zyM N) Jl (lam N (zb0 N)) Tryz.f80 (zlr N) := fun x => by kernel_rfl
def zD5 (N : Nat) : Ent qP := zx (zd qP) (zi _) zl 80 Tryz.f80 Tryz.func80 rfl Jl (lam N (zb0 N)) (zm (l := [(4, zc 4 zfA), (12, zc 12 zfA)]) (al (zpy N) (al (zeN N) an)) (by kernel_rfl)) (zlr N) (fun _ => ⟨rfl, rfl⟩) (ztU N) (fun _ _ _ h => zu h (fun _ _ => rfl) (fun _ _ => rfl)) (ztT N)
def zac : Nat -> Keep × Keep := anL [(4, ⟨[0, 1, 5], [], [0], [], [], [], [], [0], false, none, []⟩, ⟨[4], [], [0], [], [], [], [], [0], false, none, []⟩)]
def zwT (N : Nat) : GamK := gam (P := qP) []
def ZA (N : Nat) : LSpec where
 X := Nat × Int × Int × qA
 Y := (Bool × qA) ⊕ (qA)
 p := fun s => rdS 18 1 [(0, .vs0 0 1), (1, .int .i64), (5, .int .i64)] [(0, .tt)] s fun ⟨a0, a1, a2, _⟩ ⟨a3, _⟩ => (a0, a1, a2, a3)
 st := fun u4 => mkS 18 [(0, (AV.vs 0 0 u4.1 1)), (1, (qI u4.2.1)), (5, (qI u4.2.2.1))] [(0, u4.2.2.2)] (zac 4).1.toks 1
 out := fun y => match y with
  | .inl y => (.ret, mkS 18 [(4, (AV.v (.bool y.1)))] [(0, y.2)] (zac 4).2.toks 1)
  | .inr y => (.exit 0, mkS 18 [] [(0, y)] (zac 4).2.toks 1)
 b := fun u4 α kn ke => (match (decide (u4.2.2.1 < ((u4.1 : Nat) : Int))) with | true => (if 0 <= u4.2.2.1 /\ u4.2.2.1 < (u4.1 : Int) then (match u4.2.2.2[((0 + u4.2.2.1.toNat) * 1)]? with | some x4 => (match x4 with | .v (.int q6 n5) => (if q6 = .i64 then (match (n5 == u4.2.1) with | true => (ke (.inl (true, (u4.2.2.2.map dat0)))) | false => (kn (u4.1, u4.2.1, (i64 (u4.2.2.1 + 1)), (u4.2.2.2.map dat0)))) else none) | _ => none) | none => none) else none) | false => (ke (.inr (u4.2.2.2.map dat0))))
abbrev zoY (N : Nat) (x : Nat × Int × Int × qA) : Option ((Bool × qA) ⊕ (qA)) := (ZA N).L N x
def zeJ (N : Nat) : FSpec where
 X := Nat × Int × qA
 Y := Bool × qA
 ash := [[none], [none]]
 bsh := [[]]
 S := ⟨[[none]], [[]], [], [], [0]⟩
 pat := fun a b => rdA [.vs0 0 1, .int .i64] [.tt] a b fun ⟨a0, a1, _⟩ ⟨a2, _⟩ => (a0, a1, a2)
 args := fun x => [(AV.vs 0 0 x.1 1), (AV.v (.int .i64 x.2.1))]
 bs := fun x => [x.2.2]
 ret := fun y => ⟨(AV.v (.bool y.1)), [y.2], none, [], [], [0], none⟩
 t := fun x α k => (match zoY N (x.1, x.2.1, 0, (x.2.2.map dat0)) with | some y7 => (match y7 with | .inl z8 => (k (z8.1, (z8.2.map dat0))) | .inr z9 => (k (false, (z9.map dat0)))) | none => none)
abbrev zgK (N : Nat) (x : Nat × Int × qA) : Option (Bool × qA) := (zeJ N).d x
def zc8 (N : Nat) : List (Nat × LSpec) := [(4, ZA N)]
def zja : Code := Tryz.f69.body.getD .skip
theorem zoZ (N : Nat) : Par (ZA N).b := by
 intro x α β kn ke kn' ke' r r' h h1 h2
 revert h
 dsimp only [ZA]
 (repeat' (first | (with_reducible refine ze ?_ ?_) | split)) <;> intro h <;> first | exact h1 _ h | exact h2 _ h | cases h
theorem zlc (N : Nat) : je (zn qP) (zwT N) zac N (zc8 N) 4 zja (ZA N) := fun x α kn ke => by kernel_rfl
theorem zld (N : Nat) : ZE qP zac N (zc8 N) 4 (zc 4 zja) :=
 zC (zd qP) (zi _) zl zac N (zc8 N) 4 zja (l := []) (by kernel_rfl) (by kernel_rfl) an (ZA N) rfl (fun s x hc h => by dsimp only [ZA] at h; exact zI hc h (fun _ _ => rfl) rfl rfl rfl) (fun _ => rfl) (zlc N) (zoZ N)
theorem zo0 (N : Nat) : Zc (zeJ N).t := by
 intro x α β k k' r r' h h1
 revert h
 dsimp only [zeJ]
 (repeat' (first | (with_reducible refine ze ?_ ?_) | split)) <;> intro h <;> first | exact h1 _ h | cases h
theorem zo1 (N : Nat) : Ze (zn qP) (zwT N) zac (lam N (zc8 N)) Tryz.f69 (zeJ N) := fun x => by kernel_rfl
def zwS (N : Nat) : Ent qP := zx (zd qP) (zi _) zl 69 Tryz.f69 Tryz.func69 rfl zac (lam N (zc8 N)) (zm (l := [(4, zc 4 zja)]) (al (zld N) an) (by kernel_rfl)) (zeJ N) (fun _ => ⟨rfl, rfl⟩) (zo1 N) (fun _ _ _ h => zu h (fun _ _ => rfl) (fun _ _ => rfl)) (zo0 N)
def zbU : Nat -> Keep × Keep := anL [(4, qK [1, 2, 5] [] [2], qK [4] [] [])]
def zBo (N : Nat) : GamK := gam (P := qP) [ztc N]
def jK (N : Nat) : LSpec where
 X := Int × Int × qL
 Y := (Bool) ⊕ (Unit)
 p := fun s => rdS 22 0 [(1, .int .i64), (2, .ptr 2 0), (5, .int .i64)] [(2, .cells [.lst 1])] s fun ⟨a0, _, a1, _⟩ ⟨⟨a2, _⟩, _⟩ => (a0, a1, a2)
 st := fun u4 => mkS 22 [(1, (qI u4.1)), (2, (AV.ptr 2 0)), (5, (qI u4.2.1))] [(2, [(AV.list 1 u4.2.2 none)])] (zbU 4).1.toks 0
 out := fun y => match y with
  | .inl y => (.ret, mkS 22 [(4, (AV.v (.bool y)))] [] (zbU 4).2.toks 0)
  | .inr y => (.exit 0, mkS 22 [] [] (zbU 4).2.toks 0)
 b := fun u4 α kn ke => (match (decide (u4.2.1 < (u4.2.2.length : Int))) with | true => (if 0 <= u4.2.1 then (match u4.2.2[u4.2.1.toNat]? with | some c1 => (match zgc c1 with | some e2 => (match zhS N e2.1 with | some y3 => (match (decide (y3.2.1 > u4.1)) with | true => (ke (.inl false)) | false => (kn (u4.1, (i64 (u4.2.1 + 1)), u4.2.2))) | none => none) | none => none) | none => none) else none) | false => (ke (.inr ())))
abbrev zwQ (N : Nat) (x : Int × Int × qL) : Option ((Bool) ⊕ (Unit)) := (jK N).L N x
def zee (N : Nat) : FSpec where
 X := qL × Int
 Y := Bool
 ash := [[some 1], [none]]
 S := ⟨[[none]], [], [], [], []⟩
 pat := fun a b => zj a fun v1 c2 => Z3 v1 fun c3 => zj c3 fun c4 c5 => Z1 1 c4 fun a0 => zR c5 <| zj c2 fun v6 c7 => jQ .i64 v6 fun a1 => zR c7 <| zR b <| some (a0, a1)
 args := fun x => [(AV.agg [(AV.list 1 x.1 none)]), (AV.v (.int .i64 x.2))]
 ret := fun y => ⟨(AV.v (.bool y)), [], none, [], [], [], none⟩
 t := fun x α k => (match zwQ N (x.2, 0, x.1) with | some y4 => (match y4 with | .inl z5 => (k z5) | .inr z6 => (k true)) | none => none)
abbrev ztg (N : Nat) (x : qL × Int) : Option (Bool) := (zee N).d x
def zgJ (N : Nat) : List (Nat × LSpec) := [(4, jK N)]
def ztf : Code := Tryz.f67.body.getD .skip
theorem zth (N : Nat) : Par (jK N).b := by
 intro x α β kn ke kn' ke' r r' h h1 h2
 revert h
 dsimp only [jK]
 (repeat' (first | (with_reducible refine ze ?_ ?_) | split)) <;> intro h <;> first | exact h1 _ h | exact h2 _ h | cases h
theorem zoW (N : Nat) : je (zn qP) (zBo N) zbU N (zgJ N) 4 ztf (jK N) := fun x α kn ke => by kernel_rfl
theorem zoX (N : Nat) : ZE qP zbU N (zgJ N) 4 (zc 4 ztf) :=
 zC (zd qP) (zi _) zl zbU N (zgJ N) 4 ztf (l := []) (by kernel_rfl) (by kernel_rfl) an (jK N) rfl (fun s x hc h => by dsimp only [jK] at h; exact zI hc h (fun _ _ => rfl) rfl rfl rfl) (fun _ => rfl) (zoW N) (zth N)
theorem zti (N : Nat) : Zc (zee N).t := by
 intro x α β k k' r r' h h1
 revert h
 dsimp only [zee]
 (repeat' (first | (with_reducible refine ze ?_ ?_) | split)) <;> intro h <;> first | exact h1 _ h | cases h
theorem ztj (N : Nat) : Ze (zn qP) (zBo N) zbU (lam N (zgJ N)) Tryz.f67 (zee N) := fun x => by kernel_rfl
theorem zyB (N : Nat) (a : List AV) (b : qL) (x : (zee N).X) (h : (zee N).pat a b = some x) : a = (zee N).args x /\ b = (zee N).bs x := by
 obtain ⟨v1, c2, rfl, g0⟩ := zb (show zj _ _ = some x from h)
 obtain ⟨c3, rfl, g1⟩ := zO g0; clear g0
 obtain ⟨c4, c5, rfl, g2⟩ := zb g1; clear g1
 obtain ⟨a0, rfl, g3⟩ := zq g2; clear g2
 obtain ⟨rfl, g4⟩ := zg g3; clear g3
 obtain ⟨v6, c7, rfl, g5⟩ := zb g4; clear g4
 obtain ⟨a1, rfl, g6⟩ := zA g5; clear g5
 obtain ⟨rfl, g7⟩ := zg g6; clear g6
 obtain ⟨rfl, g8⟩ := zg g7; clear g7
 clear h
 cases g8
 exact ⟨rfl, rfl⟩
def zBn (N : Nat) : Ent qP := zx (zd qP) (zi _) zl 67 Tryz.f67 Tryz.func67 rfl zbU (lam N (zgJ N)) (zm (l := [(4, zc 4 ztf)]) (al (zoX N) an) (by kernel_rfl)) (zee N) (fun _ => ⟨rfl, rfl⟩) (ztj N) (zyB N) (zti N)
end
end Go.Proofs.YthdgnfcbehcplaaGreatDoor
end
section
namespace Go.Proofs.YthdgnfcbehcplaaGreatDoor
noncomputable section
open Go.RowKit
set_option maxRecDepth 4000
set_option maxHeartbeats 4000000
def zaU : Nat -> Keep × Keep := anL [(5, ⟨[1, 2, 3, 4], [], [1, 2, 3], [], [((2, 0), 1)], [], [((3, 0), 1)], [], false, some 2012288, []⟩, ⟨[2, 3], [], [2, 3], [], [((2, 0), 1)], [], [((3, 0), 1)], [], false, some 2012288, []⟩)]
def zwy (N : Nat) : GamK := gam (P := qP) []
def ZU (N : Nat) : LSpec where
 X := Int × qL × qL × Nat × qA × Nat × Nat
 Y := (qL × Nat × qA × Nat × Nat)
 p := fun s => rdF 27 0 2012288 [(1, .ptr 1 0), (2, .ptr 2 0), (3, .ptr 3 0), (4, .int .i64)] [(1, .cells [.lst 1]), (2, .cells [.tok 1 6400524288]), (3, .cells [.vs0 2012288 1]), (2012288, .tt)] s fun ⟨_, _, _, a0, _⟩ ⟨⟨a1, _⟩, ⟨a2, _⟩, ⟨a3, _⟩, a4, _⟩ a5 a6 => (a0, a1, a2, a3, a4, a5, a6)
 st := fun u5 => mkF 27 [(1, (AV.ptr 1 0)), (2, (AV.ptr 2 0)), (3, (AV.ptr 3 0)), (4, (qI u5.1))] [(1, [(AV.list 1 u5.2.1 none)]), (2, [(AV.list 1 u5.2.2.1 (some 6400524288))]), (3, [(AV.vs 2012288 0 u5.2.2.2.1 1)]), (2012288, u5.2.2.2.2.1)] (zaU 5).1.toks 0 (some (2012288, u5.2.2.2.2.2.1, u5.2.2.2.2.2.2))
 out := fun y => (.exit 0, mkF 27 [(2, (AV.ptr 2 0)), (3, (AV.ptr 3 0))] [(2, [(AV.list 1 y.1 (some 6400524288))]), (3, [(AV.vs 2012288 0 y.2.1 1)]), (2012288, y.2.2.1)] (zaU 5).2.toks 0 (some (2012288, y.2.2.2.1, y.2.2.2.2)))
 b := fun u5 α kn ke => (match (decide (u5.1 < (u5.2.1.length : Int))) with | true => (if 0 <= u5.1 then (match u5.2.1[u5.1.toNat]? with | some c4 => (match (c4.drop 0)[0]? with | some x5 => (match jf 29 x5 with | some l6 => (if (([] : qL).length + l6.length) * 288 <= zh then (if (u5.2.2.2.2.2.2 = u5.2.2.2.1 /\ u5.2.2.2.2.2.1 <= u5.2.2.2.2.2.2) /\ u5.2.2.2.1 * 1 <= u5.2.2.2.2.1.length /\ (u5.2.2.2.1 + 1) * 24 <= zh then (kn ((i64 (u5.1 + 1)), u5.2.1, u5.2.2.1, (u5.2.2.2.1 + 1), ((u5.2.2.2.2.1.take (u5.2.2.2.1 * 1) ++ [AV.list 29 (([] : qL) ++ l6) (some (TOB + u5.2.2.2.2.2.2))]).map datF), u5.2.2.2.2.2.1, (u5.2.2.2.2.2.2 + 1))) else none) else none) | none => none) | none => none) | none => none) else none) | false => (ke (u5.2.2.1, u5.2.2.2.1, (u5.2.2.2.2.1.map datF), u5.2.2.2.2.2)))
abbrev zok (N : Nat) (x : Int × qL × qL × Nat × qA × Nat × Nat) : Option ((qL × Nat × qA × Nat × Nat)) := (ZU N).L N x
def zaB (N : Nat) : FSpec where
 X := qL
 Y := Nat × qA × Nat × Nat
 ash := [[some 1]]
 S := ⟨[[some 1]], [], [], [], []⟩
 bm := true
 pat := fun a b => zj a fun v1 c2 => Z3 v1 fun c3 => zj c3 fun c4 c5 => Z1 1 c4 fun a0 => zR c5 <| zR c2 <| zR b <| some a0
 args := fun x => [(AV.agg [(AV.list 1 x none)])]
 ret := fun y => ⟨(AV.agg [(AV.vs 0 0 y.1 1)]), [], some y.2.1, [], [], [], some (y.2.2.1, y.2.2.2)⟩
 t := fun x α k => (match zok N (0, x, ([] : qL), 0, ([] : List AV), 0, 0) with | some y7 => (k (y7.2.1, (y7.2.2.1.map datF), y7.2.2.2)) | none => none)
abbrev zgF (N : Nat) (x : qL) : Option (Nat × qA × Nat × Nat) := (zaB N).d x
def zc5 (N : Nat) : List (Nat × LSpec) := [(5, ZU N)]
def zi6 : Code := Tryz.f44.body.getD .skip
theorem zol (N : Nat) : Par (ZU N).b := by
 intro x α β kn ke kn' ke' r r' h h1 h2
 revert h
 dsimp only [ZU]
 (repeat' (first | (with_reducible refine ze ?_ ?_) | split)) <;> intro h <;> first | exact h1 _ h | exact h2 _ h | cases h
theorem zkQ (N : Nat) : je (J2 qP [23, 24]) (zwy N) zaU N (zc5 N) 5 zi6 (ZU N) := fun x α kn ke => by kernel_rfl
theorem zkR (N : Nat) : ZE qP zaU N (zc5 N) 5 (zc 5 zi6) :=
 zC (zM qP [23, 24]) (zi _) zl zaU N (zc5 N) 5 zi6 (l := []) (by kernel_rfl) (by kernel_rfl) an (ZU N) rfl (fun s x hc h => by dsimp only [ZU] at h; exact zbn hc h (fun _ _ _ _ => rfl) rfl rfl) (fun _ => rfl) (zkQ N) (zol N)
theorem zom (N : Nat) : Zc (zaB N).t := by
 intro x α β k k' r r' h h1
 revert h
 dsimp only [zaB]
 (repeat' (first | (with_reducible refine ze ?_ ?_) | split)) <;> intro h <;> first | exact h1 _ h | cases h
theorem zon (N : Nat) : Ze (J2 qP [23, 24]) (zwy N) zaU (lam N (zc5 N)) Tryz.f44 (zaB N) := fun x => by kernel_rfl
theorem zsr (N : Nat) (a : List AV) (b : qL) (x : (zaB N).X) (h : (zaB N).pat a b = some x) : a = (zaB N).args x /\ b = (zaB N).bs x := by
 obtain ⟨v1, c2, rfl, g0⟩ := zb (show zj _ _ = some x from h)
 obtain ⟨c3, rfl, g1⟩ := zO g0; clear g0
 obtain ⟨c4, c5, rfl, g2⟩ := zb g1; clear g1
 obtain ⟨a0, rfl, g3⟩ := zq g2; clear g2
 obtain ⟨rfl, g4⟩ := zg g3; clear g3
 obtain ⟨rfl, g5⟩ := zg g4; clear g4
 obtain ⟨rfl, g6⟩ := zg g5; clear g5
 clear h
 cases g6
 exact ⟨rfl, rfl⟩
def zwx (N : Nat) : Ent qP := zx (zM qP [23, 24]) (zi _) zl 44 Tryz.f44 Tryz.func44 rfl zaU (lam N (zc5 N)) (zm (l := [(5, zc 5 zi6)]) (al (zkR N) an) (by kernel_rfl)) (zaB N) (fun _ => ⟨rfl, rfl⟩) (zon N) (zsr N) (zom N)
def Jg : Nat -> Keep × Keep := anF [(2, ⟨[1, 3, 5, 6], [], [3, 5, 6], [], [((6, 0), 1)], [], [], [], true, none, []⟩, ⟨[1, 3, 5, 6, 7], [], [3, 5, 6], [], [((6, 0), 1)], [], [], [], false, none, []⟩), (19, ⟨[1, 3, 5, 6, 8], [], [3, 5, 6, 8], [], [((6, 0), 1)], [], [], [], true, none, []⟩, ⟨[1, 3, 5, 6, 7, 8], [], [3, 5, 6, 8], [], [((6, 0), 1)], [], [], [], false, none, []⟩)] [(100018, ([], [((9, 0), 1)]))]
def zyn (N : Nat) : GamK := gam (P := qP) [zA1 N, zBF N, zyh N, zBn N, ztc N, zyC N, zBH N, zwx N]
def jj (N : Nat) : LSpec where
 X := Int × qL × RT7 × qL × RT7
 Y := (Int × Int × qL × RT7 × qL × RT7) ⊕ (Int × qL × RT7 × qL × RT7)
 p := fun s => rdS 127 0 [(1, .int .i64), (3, .ptr 3 0), (5, .ptr 5 0), (6, .ptr 6 0), (8, .ptr 8 0)] [(3, .cells [.lst 1]), (5, .row RK7), (6, .cells [.tok 1 6401572864]), (8, .row RK7)] s fun ⟨a0, _, _, _, _, _⟩ ⟨⟨a1, _⟩, a2, ⟨a3, _⟩, a4, _⟩ => (a0, a1, a2, a3, a4)
 st := fun u19 => mkS 127 [(1, (qI u19.1)), (3, (AV.ptr 3 0)), (5, (AV.ptr 5 0)), (6, (AV.ptr 6 0)), (8, (AV.ptr 8 0))] [(3, [(AV.list 1 u19.2.1 none)]), (5, (zK u19.2.2.1)), (6, [(AV.list 1 u19.2.2.2.1 (some 6401572864))]), (8, (zK u19.2.2.2.2))] (Jg 19).1.toks 0
 out := fun y => match y with
  | .inl y => (.ret, mkS 127 [(1, (qI y.1)), (3, (AV.ptr 3 0)), (5, (AV.ptr 5 0)), (6, (AV.ptr 6 0)), (7, (qI y.2.1)), (8, (AV.ptr 8 0))] [(3, [(AV.list 1 y.2.2.1 none)]), (5, (zK y.2.2.2.1)), (6, [(AV.list 1 y.2.2.2.2.1 (some 6401572864))]), (8, (zK y.2.2.2.2.2))] (Jg 19).2.toks 0)
  | .inr y => (.normal, mkS 127 [(1, (qI y.1)), (3, (AV.ptr 3 0)), (5, (AV.ptr 5 0)), (6, (AV.ptr 6 0)), (8, (AV.ptr 8 0))] [(3, [(AV.list 1 y.2.1 none)]), (5, (zK y.2.2.1)), (6, [(AV.list 1 y.2.2.2.1 (some 6401572864))]), (8, (zK y.2.2.2.2))] (Jg 19).2.toks 0)
 b := fun u19 α kn ke => (match (u19.2.2.1.1 == 5) with | true => (match (u19.2.2.1.2.2.2.1 == u19.1) with | true => (ke (.inl (u19.1, 10, u19.2.1, u19.2.2.1, ([] : qL), u19.2.2.2.2))) | false => (match (u19.2.2.1.1 == 6) with | true => (match zhT N u19.2.2.2.2 with | some y21 => (match y21 with | true => (ke (.inl (u19.1, 10, u19.2.1, u19.2.2.1, ([] : qL), u19.2.2.2.2))) | false => (ke (.inr u19))) | none => none) | false => (ke (.inr u19)))) | false => (match (u19.2.2.1.1 == 6) with | true => (match zhT N u19.2.2.2.2 with | some y22 => (match y22 with | true => (ke (.inl (u19.1, 10, u19.2.1, u19.2.2.1, ([] : qL), u19.2.2.2.2))) | false => (ke (.inr u19))) | none => none) | false => (ke (.inr u19))))
abbrev zft (N : Nat) (x : Int × qL × RT7 × qL × RT7) : Option ((Int × Int × qL × RT7 × qL × RT7) ⊕ (Int × qL × RT7 × qL × RT7)) := (jj N).L N x
def zaD (N : Nat) : LSpec where
 X := Int × qL × RT7 × qL
 Y := (Int × Int × qL × RT7 × qL) ⊕ (Int × qL × RT7 × qL)
 p := fun s => rdS 127 0 [(1, .int .i64), (3, .ptr 3 0), (5, .ptr 5 0), (6, .ptr 6 0)] [(3, .cells [.lst 1]), (5, .row RK7), (6, .cells [.tok 1 6401572864])] s fun ⟨a0, _, _, _, _⟩ ⟨⟨a1, _⟩, a2, ⟨a3, _⟩, _⟩ => (a0, a1, a2, a3)
 st := fun u2 => mkS 127 [(1, (qI u2.1)), (3, (AV.ptr 3 0)), (5, (AV.ptr 5 0)), (6, (AV.ptr 6 0))] [(3, [(AV.list 1 u2.2.1 none)]), (5, (zK u2.2.2.1)), (6, [(AV.list 1 u2.2.2.2 (some 6401572864))])] (Jg 2).1.toks 0
 out := fun y => match y with
  | .inl y => (.ret, mkS 127 [(1, (qI y.1)), (3, (AV.ptr 3 0)), (5, (AV.ptr 5 0)), (6, (AV.ptr 6 0)), (7, (qI y.2.1))] [(3, [(AV.list 1 y.2.2.1 none)]), (5, (zK y.2.2.2.1)), (6, [(AV.list 1 y.2.2.2.2 (some 6401572864))])] (Jg 2).2.toks 0)
  | .inr y => (.normal, mkS 127 [(1, (qI y.1)), (3, (AV.ptr 3 0)), (5, (AV.ptr 5 0)), (6, (AV.ptr 6 0))] [(3, [(AV.list 1 y.2.1 none)]), (5, (zK y.2.2.1)), (6, [(AV.list 1 y.2.2.2 (some 6401572864))])] (Jg 2).2.toks 0)
 b := fun u2 α kn ke => (match zr6 N u2.2.1 with | some y7 => (match (!y7) with | true => (ke (.inl (u2.1, 1, u2.2.1, u2.2.2.1, ([] : qL)))) | false => (match zt5 N u2.2.2.1.2.2.1 with | some y8 => (match (!y8) with | true => (ke (.inl (u2.1, 1, u2.2.1, u2.2.2.1, ([] : qL)))) | false => (match (u2.2.2.1.1 == 3) with | true => (match zfr N ([(zB (zw u2.2.2.1))]) with | some y9 => (match (!y9) with | true => (ke (.inl (u2.1, 1, u2.2.1, u2.2.2.1, ([] : qL)))) | false => (ke (.inr u2))) | none => none) | false => (ke (.inr u2)))) | none => none)) | none => none)
abbrev zwB (N : Nat) (x : Int × qL × RT7 × qL) : Option ((Int × Int × qL × RT7 × qL) ⊕ (Int × qL × RT7 × qL)) := (zaD N).L N x
def zea (N : Nat) : FSpec where
 X := qL × Int × RT7
 Y := qL × Int
 ash := [[some 1], [none], [none, none, none, none, none, none, none, none, none, none, none, none, none, some 9, none, none, none, none, none, none, none, none, none, none, none, none, none, none, none]]
 S := ⟨[[some 1], [none]], [], [], [], []⟩
 pat := fun a b => zj a fun v1 c2 => Z3 v1 fun c3 => zj c3 fun c4 c5 => Z1 1 c4 fun a0 => zR c5 <| zj c2 fun v6 c7 => jQ .i64 v6 fun a1 => zj c7 fun v8 c9 => zxE RK7 v8 fun a2 => zR c9 <| zR b <| some (a0, a1, a2)
 args := fun x => [(AV.agg [(AV.list 1 x.1 none)]), (AV.v (.int .i64 x.2.1)), (AV.agg (zK x.2.2))]
 ret := fun y => ⟨(AV.tup [(AV.agg [(AV.list 1 y.1 none)]), (AV.v (.int .i64 y.2))]), [], none, [], [], [], none⟩
 t := fun x α k => (match zwB N (x.2.1, x.1, x.2.2, ([] : qL)) with | some y10 => (match y10 with | .inl z11 => (k (z11.2.2.2.2, z11.2.1)) | .inr z12 => (match (decide (z12.1 < 0)) with | true => (k (([] : qL), 6)) | false => (match (decide (z12.1 >= (z12.2.1.length : Int))) with | true => (k (([] : qL), 6)) | false => (match (decide (z12.2.2.1.2.2.2.1 < 0)) with | true => (k (([] : qL), 6)) | false => (match (decide (z12.2.2.1.2.2.2.1 >= (z12.2.1.length : Int))) with | true => (k (([] : qL), 6)) | false => (match (decide (z12.2.2.1.2.1 < 0)) with | true => (k (([] : qL), 2)) | false => (match (decide (z12.2.2.1.2.1 > 18014398509481984)) with | true => (k (([] : qL), 2)) | false => (match ztg N (z12.2.1, z12.2.2.1.2.1) with | some y13 => (match (!y13) with | true => (k (([] : qL), 9)) | false => (if 0 <= z12.1 then (match z12.2.1[z12.1.toNat]? with | some c14 => (match zgc c14 with | some e15 => (match zhS N e15.1 with | some y16 => (match zft N (z12.1, z12.2.1, z12.2.2.1, z12.2.2.2, y16) with | some y23 => (match y23 with | .inl z24 => (k (z24.2.2.2.2.1, z24.2.1)) | .inr z25 => (if 0 <= z25.1 then (match z25.2.1[z25.1.toNat]? with | some c26 => (match (c26.drop 0)[0]? with | some x27 => (match jf 29 x27 with | some l28 => (match ((l28.length : Int) == 100) with | true => (k (([] : qL), 8)) | false => (match zh0 N z25.2.2.1.1 with | some y29 => (match y29 with | true => (match zgF N z25.2.1 with | some y30 => (if 0 <= z25.1 /\ z25.1 < (y30.1 : Int) then (match (y30.2.1.map (datJ y30.2.2.1 y30.2.2.2))[(((0 + z25.1.toNat) * 1) + 0)]? with | some c31 => (match c31 with | .list n32 l33 (some q34) => (if n32 = 29 /\ q34 = TOB + (((0 + z25.1.toNat) * 1) + 0) /\ y30.2.2.1 <= (((0 + z25.1.toNat) * 1) + 0) /\ (((0 + z25.1.toNat) * 1) + 0) < y30.2.2.2 then (if (l33.length + [(zK (z25.2.2.1.1, z25.2.2.1.2.1, z25.2.2.1.2.2.1, z25.2.2.1.2.2.2.1, z25.2.2.2.2.2.2.2.2))].length) * 288 <= zh then (if 0 <= z25.1 /\ z25.1 < (y30.1 : Int) then (if (((0 + z25.1.toNat) * 1) + 0) + 1 <= (y30.2.1.map (datJ y30.2.2.1 y30.2.2.2)).length then (if y30.1 * 1 <= (splice (y30.2.1.map (datJ y30.2.2.1 y30.2.2.2)) (((0 + z25.1.toNat) * 1) + 0) [(AV.list 29 (l33 ++ [(zK (z25.2.2.1.1, z25.2.2.1.2.1, z25.2.2.1.2.2.1, z25.2.2.1.2.2.2.1, z25.2.2.2.2.2.2.2.2))]) (some 7872))]).length then (k ((zL ((splice (y30.2.1.map (datJ y30.2.2.1 y30.2.2.2)) (((0 + z25.1.toNat) * 1) + 0) [(AV.list 29 (l33 ++ [(zK (z25.2.2.1.1, z25.2.2.1.2.1, z25.2.2.1.2.2.1, z25.2.2.1.2.2.2.1, z25.2.2.2.2.2.2.2.2))]) (some 7872))]).take (y30.1 * 1)) 1 y30.1), 0)) else none) else none) else none) else none) else none) | _ => none) | none => none) else none) | none => none) | false => (match zgF N z25.2.1 with | some y35 => (if 0 <= z25.1 /\ z25.1 < (y35.1 : Int) then (match (y35.2.1.map (datJ y35.2.2.1 y35.2.2.2))[(((0 + z25.1.toNat) * 1) + 0)]? with | some c36 => (match c36 with | .list n37 l38 (some q39) => (if n37 = 29 /\ q39 = TOB + (((0 + z25.1.toNat) * 1) + 0) /\ y35.2.2.1 <= (((0 + z25.1.toNat) * 1) + 0) /\ (((0 + z25.1.toNat) * 1) + 0) < y35.2.2.2 then (if (l38.length + [(zK z25.2.2.1)].length) * 288 <= zh then (if 0 <= z25.1 /\ z25.1 < (y35.1 : Int) then (if (((0 + z25.1.toNat) * 1) + 0) + 1 <= (y35.2.1.map (datJ y35.2.2.1 y35.2.2.2)).length then (if y35.1 * 1 <= (splice (y35.2.1.map (datJ y35.2.2.1 y35.2.2.2)) (((0 + z25.1.toNat) * 1) + 0) [(AV.list 29 (l38 ++ [(zK z25.2.2.1)]) (some 7872))]).length then (k ((zL ((splice (y35.2.1.map (datJ y35.2.2.1 y35.2.2.2)) (((0 + z25.1.toNat) * 1) + 0) [(AV.list 29 (l38 ++ [(zK z25.2.2.1)]) (some 7872))]).take (y35.1 * 1)) 1 y35.1), 0)) else none) else none) else none) else none) else none) | _ => none) | none => none) else none) | none => none)) | none => none)) | none => none) | none => none) | none => none) else none)) | none => none) | none => none) | none => none) | none => none) else none)) | none => none)))))))) | none => none)
abbrev zd9 (N : Nat) (x : qL × Int × RT7) : Option (qL × Int) := (zea N).d x
def zbR (N : Nat) : List (Nat × LSpec) := [(2, zaD N), (19, jj N)]
def zgH : Code := Tryz.f48.body.getD .skip
theorem zoC (N : Nat) : Par (jj N).b := by
 intro x α β kn ke kn' ke' r r' h h1 h2
 revert h
 dsimp only [jj]
 (repeat' (first | (with_reducible refine ze ?_ ?_) | split)) <;> intro h <;> first | exact h1 _ h | exact h2 _ h | cases h
theorem zkW (N : Nat) : zmd (J2 qP [111, 120]) (zyn N) Jg N (zbR N) 19 zgH (jj N) := fun x α kn ke => by kernel_rfl
theorem zkX (N : Nat) : ZE qP Jg N (zbR N) 19 (zc 19 zgH) :=
 j9 (zM qP [111, 120]) (zi _) zl Jg N (zbR N) 19 zgH (l := []) (by kernel_rfl) an (jj N) rfl (fun s x hc h => by dsimp only [jj] at h; exact zI hc h (fun _ _ => rfl) rfl rfl rfl) (zkW N) (zoC N)
theorem zsC (N : Nat) : Par (zaD N).b := by
 intro x α β kn ke kn' ke' r r' h h1 h2
 revert h
 dsimp only [zaD]
 (repeat' (first | (with_reducible refine ze ?_ ?_) | split)) <;> intro h <;> first | exact h1 _ h | exact h2 _ h | cases h
theorem zoA (N : Nat) : zmd (J2 qP [111, 120]) (zyn N) Jg N (zbR N) 2 zgH (zaD N) := fun x α kn ke => by kernel_rfl
theorem zoB (N : Nat) : ZE qP Jg N (zbR N) 2 (zc 2 zgH) :=
 j9 (zM qP [111, 120]) (zi _) zl Jg N (zbR N) 2 zgH (l := []) (by kernel_rfl) an (zaD N) rfl (fun s x hc h => by dsimp only [zaD] at h; exact zI hc h (fun _ _ => rfl) rfl rfl rfl) (zoA N) (zsC N)
theorem zsD (N : Nat) : Zc (zea N).t := by
 intro x α β k k' r r' h h1
 revert h
 dsimp only [zea]
 (repeat' (first | (with_reducible refine ze ?_ ?_) | split)) <;> intro h <;> first | exact h1 _ h | cases h
theorem zsE (N : Nat) : Ze (J2 qP [111, 120]) (zyn N) Jg (lam N (zbR N)) Tryz.f48 (zea N) := fun x => by kernel_rfl
theorem zyo (N : Nat) (a : List AV) (b : qL) (x : (zea N).X) (h : (zea N).pat a b = some x) : a = (zea N).args x /\ b = (zea N).bs x := by
 obtain ⟨v1, c2, rfl, g0⟩ := zb (show zj _ _ = some x from h)
 obtain ⟨c3, rfl, g1⟩ := zO g0; clear g0
 obtain ⟨c4, c5, rfl, g2⟩ := zb g1; clear g1
 obtain ⟨a0, rfl, g3⟩ := zq g2; clear g2
 obtain ⟨rfl, g4⟩ := zg g3; clear g3
 obtain ⟨v6, c7, rfl, g5⟩ := zb g4; clear g4
 obtain ⟨a1, rfl, g6⟩ := zA g5; clear g5
 obtain ⟨v8, c9, rfl, g7⟩ := zb g6; clear g6
 obtain ⟨a2, rfl, g8⟩ := zdN g7; clear g7
 obtain ⟨rfl, g9⟩ := zg g8; clear g8
 obtain ⟨rfl, g10⟩ := zg g9; clear g9
 clear h
 cases g10
 exact ⟨rfl, rfl⟩
def zsB (N : Nat) : Ent qP := zx (zM qP [111, 120]) (zi _) zl 48 Tryz.f48 Tryz.func48 rfl Jg (lam N (zbR N)) (zm (l := [(2, zc 2 zgH), (19, zc 19 zgH)]) (al (zoB N) (al (zkX N) an)) (by kernel_rfl)) (zea N) (fun _ => ⟨rfl, rfl⟩) (zsE N) (zyo N) (zsD N)
def zwO : Nat -> Keep × Keep := anL []
def zDS (N : Nat) : GamK := gam (P := qP) []
def zla (N : Nat) : FSpec where
 X := RT7
 Y := Bool
 ash := [[none, none, none, none, none, none, none, none, none, none, none, none, none, some 9, none, none, none, none, none, none, none, none, none, none, none, none, none, none, none]]
 S := ⟨[[none]], [], [], [], []⟩
 pat := fun a b => rdA [.agg RK7] [] a b fun ⟨a0, _⟩ _ => a0
 args := fun x => [(AV.agg (zK x))]
 ret := fun y => ⟨(AV.v (.bool y)), [], none, [], [], [], none⟩
 t := fun x α k => (match (x.1 == 1) with | true => (k true) | false => (match (x.1 == 3) with | true => (k true) | false => (k (x.1 == 6))))
abbrev zyz (N : Nat) (x : RT7) : Option (Bool) := (zla N).d x
theorem zta (N : Nat) : Zc (zla N).t := by
 intro x α β k k' r r' h h1
 revert h
 dsimp only [zla]
 (repeat' (first | (with_reducible refine ze ?_ ?_) | split)) <;> intro h <;> first | exact h1 _ h | cases h
theorem ztb (N : Nat) : Ze (zn qP) (zDS N) zwO (lam N []) Tryz.f65 (zla N) := fun x => by kernel_rfl
def zDR (N : Nat) : Ent qP := zx (zd qP) (zi _) zl 65 Tryz.f65 Tryz.func65 rfl zwO (lam N []) (zm (l := []) an (by kernel_rfl)) (zla N) (fun _ => ⟨rfl, rfl⟩) (ztb N) (fun _ _ _ h => zu h (fun _ _ => rfl) (fun _ _ => rfl)) (zta N)
def ZK : Nat -> Keep × Keep := anL [(5, ⟨[2, 6], [], [2], [(1, 25)], [], [(5, 1)], [], [], false, none, []⟩, ⟨[2], [], [2], [(1, 25)], [], [(5, 1)], [], [], false, none, []⟩), (18, ⟨[2, 5, 8], [], [2, 1000005], [(1, 25)], [], [], [], [1000005], false, none, []⟩, ⟨[5], [], [1000005], [], [], [], [], [1000005], false, none, []⟩), (26, ⟨[2, 5, 8, 9], [], [2, 1000005], [(1, 25)], [], [], [], [1000005], false, none, []⟩, ⟨[2, 5, 8], [], [2, 1000005], [(1, 25)], [], [], [], [1000005], false, none, []⟩)]
def zi5 (N : Nat) : GamK := gam (P := qP) [ztc N, zD4 N, zwS N, zD5 N]
def zQ (N : Nat) : LSpec where
 X := qL × Nat × Int × Int × qL × qA
 Y := (qL × Nat × Int × qL × qA)
 p := fun s => rdS 81 0 [(1, .lst 25), (2, .ptr 2 0), (5, .vs0 1000005 1), (8, .int .i64), (9, .int .i64)] [(2, .cells [.lst 1]), (1000005, .tt)] s fun ⟨a0, _, a1, a2, a3, _⟩ ⟨⟨a4, _⟩, a5, _⟩ => (a0, a1, a2, a3, a4, a5)
 st := fun u26 => mkS 81 [(1, (AV.list 25 u26.1 none)), (2, (AV.ptr 2 0)), (5, (AV.vs 1000005 0 u26.2.1 1)), (8, (qI u26.2.2.1)), (9, (qI u26.2.2.2.1))] [(2, [(AV.list 1 u26.2.2.2.2.1 none)]), (1000005, u26.2.2.2.2.2)] (ZK 26).1.toks 0
 out := fun y => (.exit 4, mkS 81 [(1, (AV.list 25 y.1 none)), (2, (AV.ptr 2 0)), (5, (AV.vs 1000005 0 y.2.1 1)), (8, (qI y.2.2.1))] [(2, [(AV.list 1 y.2.2.2.1 none)]), (1000005, y.2.2.2.2)] (ZK 26).2.toks 0)
 b := fun u26 α kn ke => (match (decide (u26.2.2.2.1 < (u26.1.length : Int))) with | true => (if 0 <= u26.2.2.1 /\ u26.2.2.1 < (u26.2.1 : Int) then (match u26.2.2.2.2.2[((0 + u26.2.2.1.toNat) * 1)]? with | some x23 => (match x23 with | .v (.int q25 n24) => (if q25 = .i64 then (match (decide (n24 < 0)) with | true => (match zgK N (u26.2.1, u26.2.2.2.1, (u26.2.2.2.2.2.map dat0)) with | some y26 => (match (!y26.1) with | true => (if 0 <= u26.2.2.1 then (match u26.2.2.2.2.1[u26.2.2.1.toNat]? with | some c27 => (match zgc c27 with | some e28 => (match zhS N e28.1 with | some y29 => (if 0 <= u26.2.2.2.1 then (match u26.1[u26.2.2.2.1.toNat]? with | some c30 => (match ((c30.drop 9).drop 0)[0]? with | some x31 => (match jf 9 x31 with | some l32 => (match ztR N (y29.2.2.2.2.2.2.2.2.2.2.2.2.2.1, l32) with | some y33 => (match y33 with | true => (if 0 <= u26.2.2.1 /\ u26.2.2.1 < (u26.2.1 : Int) then (if ((0 + u26.2.2.1.toNat) * 1) + 1 <= y26.2.length then (kn (u26.1, u26.2.1, u26.2.2.1, (i64 (u26.2.2.2.1 + 1)), u26.2.2.2.2.1, ((splice y26.2 ((0 + u26.2.2.1.toNat) * 1) [(AV.v (.int .i64 u26.2.2.2.1))]).map dat0))) else none) else none) | false => (kn (u26.1, u26.2.1, u26.2.2.1, (i64 (u26.2.2.2.1 + 1)), u26.2.2.2.2.1, (y26.2.map dat0)))) | none => none) | none => none) | none => none) | none => none) else none) | none => none) | none => none) | none => none) else none) | false => (kn (u26.1, u26.2.1, u26.2.2.1, (i64 (u26.2.2.2.1 + 1)), u26.2.2.2.2.1, (y26.2.map dat0)))) | none => none) | false => (ke (u26.1, u26.2.1, u26.2.2.1, u26.2.2.2.2.1, (u26.2.2.2.2.2.map dat0)))) else none) | _ => none) | none => none) else none) | false => (ke (u26.1, u26.2.1, u26.2.2.1, u26.2.2.2.2.1, (u26.2.2.2.2.2.map dat0))))
abbrev zi4 (N : Nat) (x : qL × Nat × Int × Int × qL × qA) : Option ((qL × Nat × Int × qL × qA)) := (zQ N).L N x
def Zs (N : Nat) : LSpec where
 X := qL × Nat × Int × qL × qA
 Y := (Nat × qA)
 p := fun s => rdS 81 0 [(1, .lst 25), (2, .ptr 2 0), (5, .vs0 1000005 1), (8, .int .i64)] [(2, .cells [.lst 1]), (1000005, .tt)] s fun ⟨a0, _, a1, a2, _⟩ ⟨⟨a3, _⟩, a4, _⟩ => (a0, a1, a2, a3, a4)
 st := fun u18 => mkS 81 [(1, (AV.list 25 u18.1 none)), (2, (AV.ptr 2 0)), (5, (AV.vs 1000005 0 u18.2.1 1)), (8, (qI u18.2.2.1))] [(2, [(AV.list 1 u18.2.2.2.1 none)]), (1000005, u18.2.2.2.2)] (ZK 18).1.toks 0
 out := fun y => (.exit 2, mkS 81 [(5, (AV.vs 1000005 0 y.1 1))] [(1000005, y.2)] (ZK 18).2.toks 0)
 b := fun u18 α kn ke => (match (decide (u18.2.2.1 < (u18.2.2.2.1.length : Int))) with | true => (match zi4 N (u18.1, u18.2.1, u18.2.2.1, 0, u18.2.2.2.1, (u18.2.2.2.2.map dat0)) with | some y35 => (kn (y35.1, y35.2.1, (i64 (y35.2.2.1 + 1)), y35.2.2.2.1, (y35.2.2.2.2.map dat0))) | none => none) | false => (ke (u18.2.1, (u18.2.2.2.2.map dat0))))
abbrev zi3 (N : Nat) (x : qL × Nat × Int × qL × qA) : Option ((Nat × qA)) := (Zs N).L N x
def Zp (N : Nat) : LSpec where
 X := Nat × qL × Int × qL × qA
 Y := (Nat × qL × qL × qA)
 p := fun s => rdS 81 0 [(5, .vs0 1000005 1), (1, .lst 25), (2, .ptr 2 0), (6, .int .i64)] [(2, .cells [.lst 1]), (1000005, .tt)] s fun ⟨a0, a1, _, a2, _⟩ ⟨⟨a3, _⟩, a4, _⟩ => (a0, a1, a2, a3, a4)
 st := fun u5 => mkS 81 [(5, (AV.vs 1000005 0 u5.1 1)), (1, (AV.list 25 u5.2.1 none)), (2, (AV.ptr 2 0)), (6, (qI u5.2.2.1))] [(2, [(AV.list 1 u5.2.2.2.1 none)]), (1000005, u5.2.2.2.2)] (ZK 5).1.toks 0
 out := fun y => (.exit 0, mkS 81 [(5, (AV.vs 1000005 0 y.1 1)), (1, (AV.list 25 y.2.1 none)), (2, (AV.ptr 2 0))] [(2, [(AV.list 1 y.2.2.1 none)]), (1000005, y.2.2.2)] (ZK 5).2.toks 0)
 b := fun u5 α kn ke => (match (decide (u5.2.2.1 < (u5.2.2.2.1.length : Int))) with | true => (if 0 <= u5.2.2.1 then (match u5.2.2.2.1[u5.2.2.1.toNat]? with | some c6 => (match zgc c6 with | some e7 => (match zhS N e7.1 with | some y8 => (match ztN N (u5.2.1, (zpY y8)) with | some y9 => (match zgK N (u5.1, y9, (u5.2.2.2.2.map dat0)) with | some y10 => (match y10.1 with | true => (if u5.1 * 1 <= y10.2.length /\ (u5.1 + [[(AV.v (.int .i64 (-1)))]].length) * 8 <= zh then (kn ((u5.1 + [[(AV.v (.int .i64 (-1)))]].length), u5.2.1, (i64 (u5.2.2.1 + 1)), u5.2.2.2.1, ((y10.2.take (u5.1 * 1) ++ [[(AV.v (.int .i64 (-1)))]].flatten).map dat0))) else none) | false => (if u5.1 * 1 <= y10.2.length /\ (u5.1 + [[(AV.v (.int .i64 y9))]].length) * 8 <= zh then (kn ((u5.1 + [[(AV.v (.int .i64 y9))]].length), u5.2.1, (i64 (u5.2.2.1 + 1)), u5.2.2.2.1, ((y10.2.take (u5.1 * 1) ++ [[(AV.v (.int .i64 y9))]].flatten).map dat0))) else none)) | none => none) | none => none) | none => none) | none => none) | none => none) else none) | false => (ke (u5.1, u5.2.1, u5.2.2.2.1, (u5.2.2.2.2.map dat0))))
abbrev zoc (N : Nat) (x : Nat × qL × Int × qL × qA) : Option ((Nat × qL × qL × qA)) := (Zp N).L N x
def zaA (N : Nat) : FSpec where
 X := qL × qL
 Y := Nat × qA
 ash := [[some 1], [some 25]]
 S := ⟨[[some 1000001]], [], [], [], []⟩
 bm := true
 pat := fun a b => zj a fun v1 c2 => Z3 v1 fun c3 => zj c3 fun c4 c5 => Z1 1 c4 fun a0 => zR c5 <| zj c2 fun v6 c7 => Z1 25 v6 fun a1 => zR c7 <| zR b <| some (a0, a1)
 args := fun x => [(AV.agg [(AV.list 1 x.1 none)]), (AV.list 25 x.2 none)]
 ret := fun y => ⟨(AV.vs 0 0 y.1 1), [], some y.2, [], [], [], none⟩
 t := fun x α k => (match zoc N (0, x.2, 0, x.1, ([] : List AV)) with | some y11 => (match zi3 N (y11.2.1, y11.1, 0, y11.2.2.1, (y11.2.2.2.map dat0)) with | some y36 => (k (y36.1, (y36.2.map dat0))) | none => none) | none => none)
abbrev zob (N : Nat) (x : qL × qL) : Option (Nat × qA) := (zaA N).d x
def jW (N : Nat) : List (Nat × LSpec) := [(5, Zp N), (18, Zs N), (26, zQ N)]
def Jw : Code := Tryz.f41.body.getD .skip
theorem zkO (N : Nat) : Par (zQ N).b := by
 intro x α β kn ke kn' ke' r r' h h1 h2
 revert h
 dsimp only [zQ]
 (repeat' (first | (with_reducible refine ze ?_ ?_) | split)) <;> intro h <;> first | exact h1 _ h | exact h2 _ h | cases h
theorem zhN (N : Nat) : je (J2 qP [33]) (zi5 N) ZK N (jW N) 26 Jw (zQ N) := fun x α kn ke => by kernel_rfl
theorem zc4 (N : Nat) : ZE qP ZK N (jW N) 26 (zc 26 Jw) :=
 zC (zM qP [33]) (zi _) zl ZK N (jW N) 26 Jw (l := []) (by kernel_rfl) (by kernel_rfl) an (zQ N) rfl (fun s x hc h => by dsimp only [zQ] at h; exact zI hc h (fun _ _ => rfl) rfl rfl rfl) (fun _ => rfl) (zhN N) (zkO N)
theorem zkN (N : Nat) : Par (Zs N).b := by
 intro x α β kn ke kn' ke' r r' h h1 h2
 revert h
 dsimp only [Zs]
 (repeat' (first | (with_reducible refine ze ?_ ?_) | split)) <;> intro h <;> first | exact h1 _ h | exact h2 _ h | cases h
theorem zhM (N : Nat) : je (J2 qP [33]) (zi5 N) ZK N (jW N) 18 Jw (Zs N) := fun x α kn ke => by kernel_rfl
theorem zhO (N : Nat) : ZE qP ZK N (jW N) 18 (zc 18 Jw) :=
 zC (zM qP [33]) (zi _) zl ZK N (jW N) 18 Jw (l := [(26, zc 26 Jw)]) (by kernel_rfl) (by kernel_rfl) (al (zc4 N) an) (Zs N) rfl (fun s x hc h => by dsimp only [Zs] at h; exact zI hc h (fun _ _ => rfl) rfl rfl rfl) (fun _ => rfl) (zhM N) (zkN N)
theorem zod (N : Nat) : Par (Zp N).b := by
 intro x α β kn ke kn' ke' r r' h h1 h2
 revert h
 dsimp only [Zp]
 (repeat' (first | (with_reducible refine ze ?_ ?_) | split)) <;> intro h <;> first | exact h1 _ h | exact h2 _ h | cases h
theorem zkL (N : Nat) : je (J2 qP [33]) (zi5 N) ZK N (jW N) 5 Jw (Zp N) := fun x α kn ke => by kernel_rfl
theorem zkM (N : Nat) : ZE qP ZK N (jW N) 5 (zc 5 Jw) :=
 zC (zM qP [33]) (zi _) zl ZK N (jW N) 5 Jw (l := []) (by kernel_rfl) (by kernel_rfl) an (Zp N) rfl (fun s x hc h => by dsimp only [Zp] at h; exact zI hc h (fun _ _ => rfl) rfl rfl rfl) (fun _ => rfl) (zkL N) (zod N)
theorem zoe (N : Nat) : Zc (zaA N).t := by
 intro x α β k k' r r' h h1
 revert h
 dsimp only [zaA]
 (repeat' (first | (with_reducible refine ze ?_ ?_) | split)) <;> intro h <;> first | exact h1 _ h | cases h
theorem zof (N : Nat) : Ze (J2 qP [33]) (zi5 N) ZK (lam N (jW N)) Tryz.f41 (zaA N) := fun x => by kernel_rfl
theorem zso (N : Nat) (a : List AV) (b : qL) (x : (zaA N).X) (h : (zaA N).pat a b = some x) : a = (zaA N).args x /\ b = (zaA N).bs x := by
 obtain ⟨v1, c2, rfl, g0⟩ := zb (show zj _ _ = some x from h)
 obtain ⟨c3, rfl, g1⟩ := zO g0; clear g0
 obtain ⟨c4, c5, rfl, g2⟩ := zb g1; clear g1
 obtain ⟨a0, rfl, g3⟩ := zq g2; clear g2
 obtain ⟨rfl, g4⟩ := zg g3; clear g3
 obtain ⟨v6, c7, rfl, g5⟩ := zb g4; clear g4
 obtain ⟨a1, rfl, g6⟩ := zq g5; clear g5
 obtain ⟨rfl, g7⟩ := zg g6; clear g6
 obtain ⟨rfl, g8⟩ := zg g7; clear g7
 clear h
 cases g8
 exact ⟨rfl, rfl⟩
def zA6 (N : Nat) : Ent qP := zx (zM qP [33]) (zi _) zl 41 Tryz.f41 Tryz.func41 rfl ZK (lam N (jW N)) (zm (l := [(5, zc 5 Jw), (18, zc 18 Jw), (26, zc 26 Jw)]) (al (zkM N) (al (zhO N) (al (zc4 N) an))) (by kernel_rfl)) (zaA N) (fun _ => ⟨rfl, rfl⟩) (zof N) (zso N) (zoe N)
def jg : Nat -> Keep × Keep := anF [(18, ⟨[2, 3, 6, 9, 10, 12], [(11, 1)], [3, 6, 9, 40, 43], [(1, 25)], [((6, 0), 1)], [], [], [40, 43], false, some 40, []⟩, ⟨[2, 6, 8, 9, 10], [(11, 1)], [6, 9, 40, 43], [(1, 25), (7, 1)], [((6, 0), 1)], [], [], [40, 43], false, some 40, []⟩), (30, ⟨[2, 3, 6, 9, 10, 12, 13, 14, 15, 16, 68], [(11, 1)], [3, 6, 9, 13, 14, 40, 43], [(1, 25)], [((6, 0), 1)], [], [], [40, 43], true, some 40, []⟩, ⟨[2, 3, 6, 9, 10, 12, 13, 14, 15], [(11, 1)], [3, 6, 9, 13, 14, 40, 43], [(1, 25)], [((6, 0), 1)], [], [], [40, 43], false, some 40, []⟩), (42, ⟨[2, 6, 9, 10, 17], [(11, 1)], [6, 9, 43], [(1, 25)], [((6, 0), 1)], [], [((9, 0), 1)], [43], false, none, []⟩, ⟨[6, 9], [(11, 1)], [6, 9], [], [((6, 0), 1)], [], [((9, 0), 1)], [], false, none, []⟩)] [(100032, ([], [((9, 0), 1)]))]
def zsf (N : Nat) : GamK := gam (P := qP) [zA1 N, zyh N, zBn N, zwx N, zA6 N, ztc N, zDR N, zyp N, zyC N, zwS N]
def Zv (N : Nat) : LSpec where
 X := qL × qL × Int × Nat × Int × qL × Nat × qA × qA
 Y := (qL × qL × Nat × qA)
 p := fun s => rdS 155 0 [(11, .tok 1 1280000704), (1, .lst 25), (2, .int .i64), (6, .ptr 6 0), (9, .ptr 9 0), (10, .vs0 43 1), (17, .int .i64)] [(6, .cells [.tok 1 6401572864]), (9, .cells [.vs0 2036864 1]), (43, .tt), (2036864, .tt)] s fun ⟨a0, a1, a2, _, _, a3, a4, _⟩ ⟨⟨a5, _⟩, ⟨a6, _⟩, a7, a8, _⟩ => (a0, a1, a2, a3, a4, a5, a6, a7, a8)
 st := fun u42 => mkS 155 [(11, (AV.list 1 u42.1 (some 1280000704))), (1, (AV.list 25 u42.2.1 none)), (2, (qI u42.2.2.1)), (6, (AV.ptr 6 0)), (9, (AV.ptr 9 0)), (10, (AV.vs 43 0 u42.2.2.2.1 1)), (17, (qI u42.2.2.2.2.1))] [(6, [(AV.list 1 u42.2.2.2.2.2.1 (some 6401572864))]), (9, [(AV.vs 2036864 0 u42.2.2.2.2.2.2.1 1)]), (43, u42.2.2.2.2.2.2.2.1), (2036864, u42.2.2.2.2.2.2.2.2)] (jg 42).1.toks 0
 out := fun y => (.exit 2, mkS 155 [(11, (AV.list 1 y.1 (some 1280000704))), (6, (AV.ptr 6 0)), (9, (AV.ptr 9 0))] [(6, [(AV.list 1 y.2.1 (some 6401572864))]), (9, [(AV.vs 2036864 0 y.2.2.1 1)]), (2036864, y.2.2.2)] (jg 42).2.toks 0)
 b := fun u42 α kn ke => (match (decide (u42.2.2.2.2.1 < (u42.2.1.length : Int))) with | true => (match zgK N (u42.2.2.2.1, u42.2.2.2.2.1, (u42.2.2.2.2.2.2.2.1.map dat0)) with | some y58 => (match (!y58.1) with | true => (if (u42.1.length + [[(AV.v (.int .i64 ((u42.2.2.2.2.2.2.1 : Nat) : Int)))]].length) * 8 <= zh then (if 0 <= u42.2.2.2.2.1 then (match u42.2.1[u42.2.2.2.2.1.toNat]? with | some c59 => (match zgT c59 with | some e60 => (if u42.2.2.2.2.2.2.1 * 1 <= u42.2.2.2.2.2.2.2.2.length /\ (u42.2.2.2.2.2.2.1 + [[(AV.list 29 [(zK (1, u42.2.2.1, (⟨#[]⟩ : ByteArray), 0, e60))] none)]].length) * 24 <= zh then (kn ((u42.1 ++ [[(AV.v (.int .i64 ((u42.2.2.2.2.2.2.1 : Nat) : Int)))]]), u42.2.1, u42.2.2.1, u42.2.2.2.1, (i64 (u42.2.2.2.2.1 + 1)), u42.2.2.2.2.2.1, (u42.2.2.2.2.2.2.1 + [[(AV.list 29 [(zK (1, u42.2.2.1, (⟨#[]⟩ : ByteArray), 0, e60))] none)]].length), (y58.2.map dat0), ((u42.2.2.2.2.2.2.2.2.take (u42.2.2.2.2.2.2.1 * 1) ++ [[(AV.list 29 [(zK (1, u42.2.2.1, (⟨#[]⟩ : ByteArray), 0, e60))] none)]].flatten).map dat0))) else none) | none => none) | none => none) else none) else none) | false => (kn (u42.1, u42.2.1, u42.2.2.1, u42.2.2.2.1, (i64 (u42.2.2.2.2.1 + 1)), u42.2.2.2.2.2.1, u42.2.2.2.2.2.2.1, (y58.2.map dat0), (u42.2.2.2.2.2.2.2.2.map dat0)))) | none => none) | false => (ke (u42.1, u42.2.2.2.2.2.1, u42.2.2.2.2.2.2.1, (u42.2.2.2.2.2.2.2.2.map dat0))))
abbrev zn4 (N : Nat) (x : qL × qL × Int × Nat × Int × qL × Nat × qA × qA) : Option ((qL × qL × Nat × qA)) := (Zv N).L N x
def jw (N : Nat) : LSpec where
 X := qL × qL × Int × Nat × Int × Bool × Int × Bool × qL × qL × Nat × RT7 × RT7 × qA × qA × Nat × Nat
 Y := (qL × qL × Int × Nat × Int × Bool × qL × qL × Nat × RT7 × RT7 × qA × qA × Nat × Nat)
 p := fun s => rdF 155 0 40 [(11, .tok 1 1280000704), (1, .lst 25), (2, .int .i64), (3, .ptr 3 0), (6, .ptr 6 0), (9, .ptr 9 0), (10, .vs0 43 1), (12, .int .i64), (13, .ptr 13 0), (14, .ptr 14 0), (15, .bool), (16, .int .i64), (68, .bool)] [(3, .cells [.lst 1]), (6, .cells [.tok 1 6401572864]), (9, .cells [.vs0 40 1]), (13, .row RK7), (14, .row RK7), (40, .tt), (43, .tt)] s fun ⟨a0, a1, a2, _, _, _, a3, a4, _, _, a5, a6, a7, _⟩ ⟨⟨a8, _⟩, ⟨a9, _⟩, ⟨a10, _⟩, a11, a12, a13, a14, _⟩ a15 a16 => (a0, a1, a2, a3, a4, a5, a6, a7, a8, a9, a10, a11, a12, a13, a14, a15, a16)
 st := fun u30 => mkF 155 [(11, (AV.list 1 u30.1 (some 1280000704))), (1, (AV.list 25 u30.2.1 none)), (2, (qI u30.2.2.1)), (3, (AV.ptr 3 0)), (6, (AV.ptr 6 0)), (9, (AV.ptr 9 0)), (10, (AV.vs 43 0 u30.2.2.2.1 1)), (12, (qI u30.2.2.2.2.1)), (13, (AV.ptr 13 0)), (14, (AV.ptr 14 0)), (15, (AV.v (.bool u30.2.2.2.2.2.1))), (16, (qI u30.2.2.2.2.2.2.1)), (68, (AV.v (.bool u30.2.2.2.2.2.2.2.1)))] [(3, [(AV.list 1 u30.2.2.2.2.2.2.2.2.1 none)]), (6, [(AV.list 1 u30.2.2.2.2.2.2.2.2.2.1 (some 6401572864))]), (9, [(AV.vs 40 0 u30.2.2.2.2.2.2.2.2.2.2.1 1)]), (13, (zK u30.2.2.2.2.2.2.2.2.2.2.2.1)), (14, (zK u30.2.2.2.2.2.2.2.2.2.2.2.2.1)), (40, u30.2.2.2.2.2.2.2.2.2.2.2.2.2.1), (43, u30.2.2.2.2.2.2.2.2.2.2.2.2.2.2.1)] (jg 30).1.toks 0 (some (40, u30.2.2.2.2.2.2.2.2.2.2.2.2.2.2.2.1, u30.2.2.2.2.2.2.2.2.2.2.2.2.2.2.2.2))
 out := fun y => (.normal, mkF 155 [(11, (AV.list 1 y.1 (some 1280000704))), (1, (AV.list 25 y.2.1 none)), (2, (qI y.2.2.1)), (3, (AV.ptr 3 0)), (6, (AV.ptr 6 0)), (9, (AV.ptr 9 0)), (10, (AV.vs 43 0 y.2.2.2.1 1)), (12, (qI y.2.2.2.2.1)), (13, (AV.ptr 13 0)), (14, (AV.ptr 14 0)), (15, (AV.v (.bool y.2.2.2.2.2.1)))] [(3, [(AV.list 1 y.2.2.2.2.2.2.1 none)]), (6, [(AV.list 1 y.2.2.2.2.2.2.2.1 (some 6401572864))]), (9, [(AV.vs 40 0 y.2.2.2.2.2.2.2.2.1 1)]), (13, (zK y.2.2.2.2.2.2.2.2.2.1)), (14, (zK y.2.2.2.2.2.2.2.2.2.2.1)), (40, y.2.2.2.2.2.2.2.2.2.2.2.1), (43, y.2.2.2.2.2.2.2.2.2.2.2.2.1)] (jg 30).2.toks 0 (some (40, y.2.2.2.2.2.2.2.2.2.2.2.2.2.1, y.2.2.2.2.2.2.2.2.2.2.2.2.2.2)))
 b := fun u30 α kn ke => (match u30.2.2.2.2.2.2.2.1 with | true => (if 0 <= u30.2.2.2.2.2.2.1 then (match u30.2.1[u30.2.2.2.2.2.2.1.toNat]? with | some c24 => (match zgT c24 with | some e25 => (match zyz N u30.2.2.2.2.2.2.2.2.2.2.2.1 with | some y26 => (match y26 with | true => (if 0 <= u30.2.2.2.2.2.2.1 then (match u30.2.1[u30.2.2.2.2.2.2.1.toNat]? with | some c27 => (match zgT c27 with | some e28 => (match zc6 N ((zw u30.2.2.2.2.2.2.2.2.2.2.2.1), e28) with | some y29 => (ke (u30.1, u30.2.1, u30.2.2.1, u30.2.2.2.1, u30.2.2.2.2.1, y29, u30.2.2.2.2.2.2.2.2.1, u30.2.2.2.2.2.2.2.2.2.1, u30.2.2.2.2.2.2.2.2.2.2.1, u30.2.2.2.2.2.2.2.2.2.2.2.1, (1, u30.2.2.2.2.2.2.2.2.2.2.2.2.1.2.1, u30.2.2.2.2.2.2.2.2.2.2.2.2.1.2.2.1, u30.2.2.2.2.2.2.2.2.2.2.2.2.1.2.2.2.1, e25), (u30.2.2.2.2.2.2.2.2.2.2.2.2.2.1.map datF), (u30.2.2.2.2.2.2.2.2.2.2.2.2.2.2.1.map dat0), u30.2.2.2.2.2.2.2.2.2.2.2.2.2.2.2)) | none => none) | none => none) | none => none) else none) | false => (ke (u30.1, u30.2.1, u30.2.2.1, u30.2.2.2.1, u30.2.2.2.2.1, false, u30.2.2.2.2.2.2.2.2.1, u30.2.2.2.2.2.2.2.2.2.1, u30.2.2.2.2.2.2.2.2.2.2.1, u30.2.2.2.2.2.2.2.2.2.2.2.1, (1, u30.2.2.2.2.2.2.2.2.2.2.2.2.1.2.1, u30.2.2.2.2.2.2.2.2.2.2.2.2.1.2.2.1, u30.2.2.2.2.2.2.2.2.2.2.2.2.1.2.2.2.1, e25), (u30.2.2.2.2.2.2.2.2.2.2.2.2.2.1.map datF), (u30.2.2.2.2.2.2.2.2.2.2.2.2.2.2.1.map dat0), u30.2.2.2.2.2.2.2.2.2.2.2.2.2.2.2))) | none => none) | none => none) | none => none) else none) | false => (ke (u30.1, u30.2.1, u30.2.2.1, u30.2.2.2.1, u30.2.2.2.2.1, u30.2.2.2.2.2.1, u30.2.2.2.2.2.2.2.2.1, u30.2.2.2.2.2.2.2.2.2.1, u30.2.2.2.2.2.2.2.2.2.2.1, u30.2.2.2.2.2.2.2.2.2.2.2.1, u30.2.2.2.2.2.2.2.2.2.2.2.2.1, (u30.2.2.2.2.2.2.2.2.2.2.2.2.2.1.map datF), (u30.2.2.2.2.2.2.2.2.2.2.2.2.2.2.1.map dat0), u30.2.2.2.2.2.2.2.2.2.2.2.2.2.2.2)))
abbrev zc3 (N : Nat) (x : qL × qL × Int × Nat × Int × Bool × Int × Bool × qL × qL × Nat × RT7 × RT7 × qA × qA × Nat × Nat) : Option ((qL × qL × Int × Nat × Int × Bool × qL × qL × Nat × RT7 × RT7 × qA × qA × Nat × Nat)) := (jw N).L N x
def Zu (N : Nat) : LSpec where
 X := qL × qL × Int × Nat × Int × qL × qL × Nat × qA × qA × Nat × Nat
 Y := (qL × qL × qL × Int × Int × Nat × qL × Nat × qA × qA × Nat × Nat) ⊕ (qL × qL × Int × Nat × qL × Nat × qA × qA × Nat × Nat)
 p := fun s => rdF 155 0 40 [(11, .tok 1 1280000704), (1, .lst 25), (2, .int .i64), (3, .ptr 3 0), (6, .ptr 6 0), (9, .ptr 9 0), (10, .vs0 43 1), (12, .int .i64)] [(3, .cells [.lst 1]), (6, .cells [.tok 1 6401572864]), (9, .cells [.vs0 40 1]), (40, .tt), (43, .tt)] s fun ⟨a0, a1, a2, _, _, _, a3, a4, _⟩ ⟨⟨a5, _⟩, ⟨a6, _⟩, ⟨a7, _⟩, a8, a9, _⟩ a10 a11 => (a0, a1, a2, a3, a4, a5, a6, a7, a8, a9, a10, a11)
 st := fun u18 => mkF 155 [(11, (AV.list 1 u18.1 (some 1280000704))), (1, (AV.list 25 u18.2.1 none)), (2, (qI u18.2.2.1)), (3, (AV.ptr 3 0)), (6, (AV.ptr 6 0)), (9, (AV.ptr 9 0)), (10, (AV.vs 43 0 u18.2.2.2.1 1)), (12, (qI u18.2.2.2.2.1))] [(3, [(AV.list 1 u18.2.2.2.2.2.1 none)]), (6, [(AV.list 1 u18.2.2.2.2.2.2.1 (some 6401572864))]), (9, [(AV.vs 40 0 u18.2.2.2.2.2.2.2.1 1)]), (40, u18.2.2.2.2.2.2.2.2.1), (43, u18.2.2.2.2.2.2.2.2.2.1)] (jg 18).1.toks 0 (some (40, u18.2.2.2.2.2.2.2.2.2.2.1, u18.2.2.2.2.2.2.2.2.2.2.2))
 out := fun y => match y with
  | .inl y => (.ret, mkF 155 [(11, (AV.list 1 y.1 (some 1280000704))), (1, (AV.list 25 y.2.1 none)), (7, (AV.list 1 y.2.2.1 none)), (2, (qI y.2.2.2.1)), (6, (AV.ptr 6 0)), (8, (qI y.2.2.2.2.1)), (9, (AV.ptr 9 0)), (10, (AV.vs 43 0 y.2.2.2.2.2.1 1))] [(6, [(AV.list 1 y.2.2.2.2.2.2.1 (some 6401572864))]), (9, [(AV.vs 40 0 y.2.2.2.2.2.2.2.1 1)]), (40, y.2.2.2.2.2.2.2.2.1), (43, y.2.2.2.2.2.2.2.2.2.1)] (jg 18).2.toks 0 (some (40, y.2.2.2.2.2.2.2.2.2.2.1, y.2.2.2.2.2.2.2.2.2.2.2)))
  | .inr y => (.exit 0, mkF 155 [(11, (AV.list 1 y.1 (some 1280000704))), (1, (AV.list 25 y.2.1 none)), (2, (qI y.2.2.1)), (6, (AV.ptr 6 0)), (9, (AV.ptr 9 0)), (10, (AV.vs 43 0 y.2.2.2.1 1))] [(6, [(AV.list 1 y.2.2.2.2.1 (some 6401572864))]), (9, [(AV.vs 40 0 y.2.2.2.2.2.1 1)]), (40, y.2.2.2.2.2.2.1), (43, y.2.2.2.2.2.2.2.1)] (jg 18).2.toks 0 (some (40, y.2.2.2.2.2.2.2.2.1, y.2.2.2.2.2.2.2.2.2)))
 b := fun u18 α kn ke => (match (decide (u18.2.2.2.2.1 < ((u18.2.2.2.1 : Nat) : Int))) with | true => (if 0 <= u18.2.2.2.2.1 then (match u18.2.2.2.2.2.1[u18.2.2.2.2.1.toNat]? with | some c38 => (match zgc c38 with | some e39 => (match zhS N e39.1 with | some y40 => (if 0 <= u18.2.2.2.2.1 /\ u18.2.2.2.2.1 < (u18.2.2.2.1 : Int) then (match u18.2.2.2.2.2.2.2.2.2.1[((0 + u18.2.2.2.2.1.toNat) * 1)]? with | some x41 => (match x41 with | .v (.int q43 n42) => (if q43 = .i64 then (match zc3 N (u18.1, u18.2.1, u18.2.2.1, u18.2.2.2.1, u18.2.2.2.2.1, (y40.1 == 2), n42, (decide (n42 >= 0)), u18.2.2.2.2.2.1, u18.2.2.2.2.2.2.1, u18.2.2.2.2.2.2.2.1, y40, (2, u18.2.2.1, (⟨#[]⟩ : ByteArray), 0, y40.2.2.2.2), (u18.2.2.2.2.2.2.2.2.1.map datF), (u18.2.2.2.2.2.2.2.2.2.1.map dat0), u18.2.2.2.2.2.2.2.2.2.2) with | some y44 => (match zhT N y44.2.2.2.2.2.2.2.2.2.1 with | some y45 => (match y45 with | true => (match (!y44.2.2.2.2.2.1) with | true => (if 0 <= y44.2.2.2.2.1 /\ y44.2.2.2.2.1 < (y44.2.2.2.2.2.2.2.2.1 : Int) then (match y44.2.2.2.2.2.2.2.2.2.2.2.1[(((0 + y44.2.2.2.2.1.toNat) * 1) + 0)]? with | some c46 => (match c46 with | .list n47 l48 (some q49) => (if n47 = 29 /\ q49 = TOB + (((0 + y44.2.2.2.2.1.toNat) * 1) + 0) /\ y44.2.2.2.2.2.2.2.2.2.2.2.2.2.1 <= (((0 + y44.2.2.2.2.1.toNat) * 1) + 0) /\ (((0 + y44.2.2.2.2.1.toNat) * 1) + 0) < y44.2.2.2.2.2.2.2.2.2.2.2.2.2.2 then (if (l48.length + [(zK y44.2.2.2.2.2.2.2.2.2.2.1)].length) * 288 <= zh then (if 0 <= y44.2.2.2.2.1 /\ y44.2.2.2.2.1 < (y44.2.2.2.2.2.2.2.2.1 : Int) then (if (((0 + y44.2.2.2.2.1.toNat) * 1) + 0) + 1 <= y44.2.2.2.2.2.2.2.2.2.2.2.1.length then (if (y44.1.length + [[(AV.v (.int .i64 y44.2.2.2.2.1))]].length) * 8 <= zh then (if 0 <= y44.2.2.2.2.1 /\ y44.2.2.2.2.1 < (y44.2.2.2.2.2.2.2.2.1 : Int) then (match (splice y44.2.2.2.2.2.2.2.2.2.2.2.1 (((0 + y44.2.2.2.2.1.toNat) * 1) + 0) [(AV.list 29 (l48 ++ [(zK y44.2.2.2.2.2.2.2.2.2.2.1)]) (some 6592))])[(((0 + y44.2.2.2.2.1.toNat) * 1) + 0)]? with | some x50 => (match jf 29 x50 with | some l51 => (match (decide ((l51.length : Int) > 100)) with | true => (ke (.inl ((y44.1 ++ [[(AV.v (.int .i64 y44.2.2.2.2.1))]]), y44.2.1, ([] : qL), y44.2.2.1, 8, y44.2.2.2.1, ([] : qL), y44.2.2.2.2.2.2.2.2.1, ((splice y44.2.2.2.2.2.2.2.2.2.2.2.1 (((0 + y44.2.2.2.2.1.toNat) * 1) + 0) [(AV.list 29 (l48 ++ [(zK y44.2.2.2.2.2.2.2.2.2.2.1)]) (some 6592))]).map datF), (y44.2.2.2.2.2.2.2.2.2.2.2.2.1.map dat0), ((((0 + y44.2.2.2.2.1.toNat) * 1) + 0) + 1), y44.2.2.2.2.2.2.2.2.2.2.2.2.2.2))) | false => (kn ((y44.1 ++ [[(AV.v (.int .i64 y44.2.2.2.2.1))]]), y44.2.1, y44.2.2.1, y44.2.2.2.1, (i64 (y44.2.2.2.2.1 + 1)), y44.2.2.2.2.2.2.1, y44.2.2.2.2.2.2.2.1, y44.2.2.2.2.2.2.2.2.1, ((splice y44.2.2.2.2.2.2.2.2.2.2.2.1 (((0 + y44.2.2.2.2.1.toNat) * 1) + 0) [(AV.list 29 (l48 ++ [(zK y44.2.2.2.2.2.2.2.2.2.2.1)]) (some 6592))]).map datF), (y44.2.2.2.2.2.2.2.2.2.2.2.2.1.map dat0), ((((0 + y44.2.2.2.2.1.toNat) * 1) + 0) + 1), y44.2.2.2.2.2.2.2.2.2.2.2.2.2.2))) | none => none) | none => none) else none) else none) else none) else none) else none) else none) | _ => none) | none => none) else none) | false => (kn (y44.1, y44.2.1, y44.2.2.1, y44.2.2.2.1, (i64 (y44.2.2.2.2.1 + 1)), y44.2.2.2.2.2.2.1, y44.2.2.2.2.2.2.2.1, y44.2.2.2.2.2.2.2.2.1, (y44.2.2.2.2.2.2.2.2.2.2.2.1.map datF), (y44.2.2.2.2.2.2.2.2.2.2.2.2.1.map dat0), y44.2.2.2.2.2.2.2.2.2.2.2.2.2))) | false => (kn (y44.1, y44.2.1, y44.2.2.1, y44.2.2.2.1, (i64 (y44.2.2.2.2.1 + 1)), y44.2.2.2.2.2.2.1, y44.2.2.2.2.2.2.2.1, y44.2.2.2.2.2.2.2.2.1, (y44.2.2.2.2.2.2.2.2.2.2.2.1.map datF), (y44.2.2.2.2.2.2.2.2.2.2.2.2.1.map dat0), y44.2.2.2.2.2.2.2.2.2.2.2.2.2))) | none => none) | none => none) else none) | _ => none) | none => none) else none) | none => none) | none => none) | none => none) else none) | false => (ke (.inr (u18.1, u18.2.1, u18.2.2.1, u18.2.2.2.1, u18.2.2.2.2.2.2.1, u18.2.2.2.2.2.2.2.1, (u18.2.2.2.2.2.2.2.2.1.map datF), (u18.2.2.2.2.2.2.2.2.2.1.map dat0), u18.2.2.2.2.2.2.2.2.2.2))))
abbrev zn3 (N : Nat) (x : qL × qL × Int × Nat × Int × qL × qL × Nat × qA × qA × Nat × Nat) : Option ((qL × qL × qL × Int × Int × Nat × qL × Nat × qA × qA × Nat × Nat) ⊕ (qL × qL × Int × Nat × qL × Nat × qA × qA × Nat × Nat)) := (Zu N).L N x
def zd6 (N : Nat) : FSpec where
 X := qL × qL × Int
 Y := qL × qL × Int
 ash := [[some 1], [some 25], [none]]
 S := ⟨[[some 1], [some 1], [none]], [], [], [], []⟩
 pat := fun a b => zj a fun v1 c2 => Z3 v1 fun c3 => zj c3 fun c4 c5 => Z1 1 c4 fun a0 => zR c5 <| zj c2 fun v6 c7 => Z1 25 v6 fun a1 => zj c7 fun v8 c9 => jQ .i64 v8 fun a2 => zR c9 <| zR b <| some (a0, a1, a2)
 args := fun x => [(AV.agg [(AV.list 1 x.1 none)]), (AV.list 25 x.2.1 none), (AV.v (.int .i64 x.2.2))]
 ret := fun y => ⟨(AV.tup [(AV.agg [(AV.list 1 y.1 none)]), (AV.list 1 y.2.1 none), (AV.v (.int .i64 y.2.2))]), [], none, [], [], [], none⟩
 t := fun x α k => (match zr6 N x.1 with | some y1 => (match (!y1) with | true => (k (([] : qL), ([] : qL), 1)) | false => (match zfr N x.2.1 with | some y2 => (match (!y2) with | true => (k (([] : qL), ([] : qL), 1)) | false => (match (decide (x.2.2 < 0)) with | true => (k (([] : qL), ([] : qL), 2)) | false => (match (decide (x.2.2 > 18014398509481984)) with | true => (k (([] : qL), ([] : qL), 2)) | false => (match ztg N (x.1, x.2.2) with | some y3 => (match (!y3) with | true => (k (([] : qL), ([] : qL), 9)) | false => (match zgF N x.1 with | some y4 => (match zob N (x.1, x.2.1) with | some y5 => (match zn3 N (([] : qL), x.2.1, x.2.2, y5.1, 0, x.1, ([] : qL), y4.1, ((y4.2.1.map (datJ y4.2.2.1 y4.2.2.2)).map datF), ((y5.2.map dat0).map dat0), y4.2.2) with | some y52 => (match y52 with | .inl z53 => (k (z53.2.2.2.2.2.2.1, z53.2.2.1, z53.2.2.2.2.1)) | .inr z54 => (match zn4 N (z54.1, z54.2.1, z54.2.2.1, z54.2.2.2.1, 0, z54.2.2.2.2.1, z54.2.2.2.2.2.1, (z54.2.2.2.2.2.2.2.1.map dat0), (z54.2.2.2.2.2.2.1.map dat0)) with | some y61 => (match (decide (((y61.2.2.1 : Nat) : Int) > 500)) with | true => (k (([] : qL), ([] : qL), 8)) | false => (if y61.2.2.1 * 1 <= y61.2.2.2.length then (k ((zL (y61.2.2.2.take (y61.2.2.1 * 1)) 1 y61.2.2.1), y61.1, 0)) else none)) | none => none)) | none => none) | none => none) | none => none)) | none => none)))) | none => none)) | none => none)
abbrev zse (N : Nat) (x : qL × qL × Int) : Option (qL × qL × Int) := (zd6 N).d x
def zaa (N : Nat) : List (Nat × LSpec) := [(18, Zu N), (30, jw N), (42, Zv N)]
def zbw : Code := Tryz.f38.body.getD .skip
theorem zn7 (N : Nat) : Par (Zv N).b := by
 intro x α β kn ke kn' ke' r r' h h1 h2
 revert h
 dsimp only [Zv]
 (repeat' (first | (with_reducible refine ze ?_ ?_) | split)) <;> intro h <;> first | exact h1 _ h | exact h2 _ h | cases h
theorem zkG (N : Nat) : je (J2 qP [40, 43, 100, 146]) (zsf N) jg N (zaa N) 42 zbw (Zv N) := fun x α kn ke => by kernel_rfl
theorem zkI (N : Nat) : ZE qP jg N (zaa N) 42 (zc 42 zbw) :=
 zC (zM qP [40, 43, 100, 146]) (zi _) zl jg N (zaa N) 42 zbw (l := []) (by kernel_rfl) (by kernel_rfl) an (Zv N) rfl (fun s x hc h => by dsimp only [Zv] at h; exact zI hc h (fun _ _ => rfl) rfl rfl rfl) (fun _ => rfl) (zkG N) (zn7 N)
theorem zn6 (N : Nat) : Par (jw N).b := by
 intro x α β kn ke kn' ke' r r' h h1 h2
 revert h
 dsimp only [jw]
 (repeat' (first | (with_reducible refine ze ?_ ?_) | split)) <;> intro h <;> first | exact h1 _ h | exact h2 _ h | cases h
theorem zkF (N : Nat) : zmd (J2 qP [40, 43, 100, 146]) (zsf N) jg N (zaa N) 30 zbw (jw N) := fun x α kn ke => by kernel_rfl
theorem zeE (N : Nat) : ZE qP jg N (zaa N) 30 (zc 30 zbw) :=
 j9 (zM qP [40, 43, 100, 146]) (zi _) zl jg N (zaa N) 30 zbw (l := []) (by kernel_rfl) an (jw N) rfl (fun s x hc h => by dsimp only [jw] at h; exact zbn hc h (fun _ _ _ _ => rfl) rfl rfl) (zkF N) (zn6 N)
theorem zn5 (N : Nat) : Par (Zu N).b := by
 intro x α β kn ke kn' ke' r r' h h1 h2
 revert h
 dsimp only [Zu]
 (repeat' (first | (with_reducible refine ze ?_ ?_) | split)) <;> intro h <;> first | exact h1 _ h | exact h2 _ h | cases h
theorem zkE (N : Nat) : je (J2 qP [40, 43, 100, 146]) (zsf N) jg N (zaa N) 18 zbw (Zu N) := fun x α kn ke => by kernel_rfl
theorem zkH (N : Nat) : ZE qP jg N (zaa N) 18 (zc 18 zbw) :=
 zC (zM qP [40, 43, 100, 146]) (zi _) zl jg N (zaa N) 18 zbw (l := [(30, zc 30 zbw)]) (by kernel_rfl) (by kernel_rfl) (al (zeE N) an) (Zu N) rfl (fun s x hc h => by dsimp only [Zu] at h; exact zbn hc h (fun _ _ _ _ => rfl) rfl rfl) (fun _ => rfl) (zkE N) (zn5 N)
theorem zsg (N : Nat) : Zc (zd6 N).t := by
 intro x α β k k' r r' h h1
 revert h
 dsimp only [zd6]
 (repeat' (first | (with_reducible refine ze ?_ ?_) | split)) <;> intro h <;> first | exact h1 _ h | cases h
theorem zsh (N : Nat) : Ze (J2 qP [40, 43, 100, 146]) (zsf N) jg (lam N (zaa N)) Tryz.f38 (zd6 N) := fun x => by kernel_rfl
theorem zyg (N : Nat) (a : List AV) (b : qL) (x : (zd6 N).X) (h : (zd6 N).pat a b = some x) : a = (zd6 N).args x /\ b = (zd6 N).bs x := by
 obtain ⟨v1, c2, rfl, g0⟩ := zb (show zj _ _ = some x from h)
 obtain ⟨c3, rfl, g1⟩ := zO g0; clear g0
 obtain ⟨c4, c5, rfl, g2⟩ := zb g1; clear g1
 obtain ⟨a0, rfl, g3⟩ := zq g2; clear g2
 obtain ⟨rfl, g4⟩ := zg g3; clear g3
 obtain ⟨v6, c7, rfl, g5⟩ := zb g4; clear g4
 obtain ⟨a1, rfl, g6⟩ := zq g5; clear g5
 obtain ⟨v8, c9, rfl, g7⟩ := zb g6; clear g6
 obtain ⟨a2, rfl, g8⟩ := zA g7; clear g7
 obtain ⟨rfl, g9⟩ := zg g8; clear g8
 obtain ⟨rfl, g10⟩ := zg g9; clear g9
 clear h
 cases g10
 exact ⟨rfl, rfl⟩
def zDA (N : Nat) : Ent qP := zx (zM qP [40, 43, 100, 146]) (zi _) zl 38 Tryz.f38 Tryz.func38 rfl jg (lam N (zaa N)) (zm (l := [(18, zc 18 zbw), (30, zc 30 zbw), (42, zc 42 zbw)]) (al (zkH N) (al (zeE N) (al (zkI N) an))) (by kernel_rfl)) (zd6 N) (fun _ => ⟨rfl, rfl⟩) (zsh N) (zyg N) (zsg N)
end
end Go.Proofs.YthdgnfcbehcplaaGreatDoor
end
section
namespace Go.Proofs.YthdgnfcbehcplaaGreatDoor
noncomputable section
open Go.RowKit
set_option maxRecDepth 4000
set_option maxHeartbeats 4000000
def zw4 : Nat -> Keep × Keep := anL []
def zD6 (N : Nat) : GamK := gam (P := qP) [zBh N]
def zlt (N : Nat) : FSpec where
 X := RT0
 Y := Bool
 ash := [[none, none, none, none, none, none, none, none, none, some 9, none, none, none, none, none, none, none, none, none, none, none, none, none, none, none]]
 S := ⟨[[none]], [], [], [], []⟩
 pat := fun a b => rdA [.agg RK0] [] a b fun ⟨a0, _⟩ _ => a0
 args := fun x => [(AV.agg (zB x))]
 ret := fun y => ⟨(AV.v (.bool y)), [], none, [], [], [], none⟩
 t := fun x α k => (match zhQ N ([(zB x)]) with | some y1 => (k y1) | none => none)
abbrev zls (N : Nat) (x : RT0) : Option (Bool) := (zlt N).d x
theorem zt0 (N : Nat) : Zc (zlt N).t := by
 intro x α β k k' r r' h h1
 revert h
 dsimp only [zlt]
 (repeat' (first | (with_reducible refine ze ?_ ?_) | split)) <;> intro h <;> first | exact h1 _ h | cases h
theorem zt1 (N : Nat) : Ze (zn qP) (zD6 N) zw4 (lam N []) Tryz.f82 (zlt N) := fun x => by kernel_rfl
def zBD (N : Nat) : Ent qP := zx (zd qP) (zi _) zl 82 Tryz.f82 Tryz.func82 rfl zw4 (lam N []) (zm (l := []) an (by kernel_rfl)) (zlt N) (fun _ => ⟨rfl, rfl⟩) (zt1 N) (fun _ _ _ h => zu h (fun _ _ => rfl) (fun _ _ => rfl)) (zt0 N)
def zb1 : Nat -> Keep × Keep := anL [(4, qK [0, 5, 6] [] [], qK [0, 2] [] [])]
def zBC (N : Nat) : GamK := gam (P := qP) []
def zde (N : Nat) : LSpec where
 X := ByteArray × Int × Int
 Y := (ByteArray × Bool) ⊕ (ByteArray)
 p := fun s => rdS 28 0 [(0, .str), (5, .int .i64), (6, .int .i64)] [] s fun ⟨a0, a1, a2, _⟩ _ => (a0, a1, a2)
 st := fun u4 => mkS 28 [(0, (AV.v (.string u4.1))), (5, (qI u4.2.1)), (6, (qI u4.2.2))] [] (zb1 4).1.toks 0
 out := fun y => match y with
  | .inl y => (.ret, mkS 28 [(0, (AV.v (.string y.1))), (2, (AV.v (.bool y.2)))] [] (zb1 4).2.toks 0)
  | .inr y => (.exit 0, mkS 28 [(0, (AV.v (.string y)))] [] (zb1 4).2.toks 0)
 b := fun u4 α kn ke => (match (decide (u4.2.2 < u4.2.1)) with | true => (if 0 <= u4.2.2 then (match u4.1[u4.2.2.toNat]? with | some c1 => (match (decide ((c1.toNat : Int) < 97)) with | true => (ke (.inl (u4.1, false))) | false => (if 0 <= u4.2.2 then (match u4.1[u4.2.2.toNat]? with | some c2 => (match (decide ((c2.toNat : Int) > 122)) with | true => (ke (.inl (u4.1, false))) | false => (kn (u4.1, u4.2.1, (i64 (u4.2.2 + 1))))) | none => none) else none)) | none => none) else none) | false => (ke (.inr u4.1)))
abbrev zBA (N : Nat) (x : ByteArray × Int × Int) : Option ((ByteArray × Bool) ⊕ (ByteArray)) := (zde N).L N x
def zpC (N : Nat) : FSpec where
 X := ByteArray
 Y := Bool
 ash := [[none]]
 S := ⟨[[none]], [], [], [], []⟩
 pat := fun a b => rdA [.str] [] a b fun ⟨a0, _⟩ _ => a0
 args := fun x => [(AV.v (.string x))]
 ret := fun y => ⟨(AV.v (.bool y)), [], none, [], [], [], none⟩
 t := fun x α k => (match zBA N (x, (x.size : Int), 0) with | some y3 => (match y3 with | .inl z4 => (k z4.2) | .inr z5 => (match (decide ((z5.size : Int) >= 1)) with | true => (k (decide ((z5.size : Int) <= 16))) | false => (k false))) | none => none)
abbrev ztW (N : Nat) (x : ByteArray) : Option (Bool) := (zpC N).d x
def zgP (N : Nat) : List (Nat × LSpec) := [(4, zde N)]
def ztV : Code := Tryz.f81.body.getD .skip
theorem ztX (N : Nat) : Par (zde N).b := by
 intro x α β kn ke kn' ke' r r' h h1 h2
 revert h
 dsimp only [zde]
 (repeat' (first | (with_reducible refine ze ?_ ?_) | split)) <;> intro h <;> first | exact h1 _ h | exact h2 _ h | cases h
theorem zpA (N : Nat) : je (zn qP) (zBC N) zb1 N (zgP N) 4 ztV (zde N) := fun x α kn ke => by kernel_rfl
theorem zpB (N : Nat) : ZE qP zb1 N (zgP N) 4 (zc 4 ztV) :=
 zC (zd qP) (zi _) zl zb1 N (zgP N) 4 ztV (l := []) (by kernel_rfl) (by kernel_rfl) an (zde N) rfl (fun s x hc h => by dsimp only [zde] at h; exact zI hc h (fun _ _ => rfl) rfl rfl rfl) (fun _ => rfl) (zpA N) (ztX N)
theorem ztY (N : Nat) : Zc (zpC N).t := by
 intro x α β k k' r r' h h1
 revert h
 dsimp only [zpC]
 (repeat' (first | (with_reducible refine ze ?_ ?_) | split)) <;> intro h <;> first | exact h1 _ h | cases h
theorem ztZ (N : Nat) : Ze (zn qP) (zBC N) zb1 (lam N (zgP N)) Tryz.f81 (zpC N) := fun x => by kernel_rfl
def zBB (N : Nat) : Ent qP := zx (zd qP) (zi _) zl 81 Tryz.f81 Tryz.func81 rfl zb1 (lam N (zgP N)) (zm (l := [(4, zc 4 ztV)]) (al (zpB N) an) (by kernel_rfl)) (zpC N) (fun _ => ⟨rfl, rfl⟩) (ztZ N) (fun _ _ _ h => zu h (fun _ _ => rfl) (fun _ _ => rfl)) (ztY N)
def zwK : Nat -> Keep × Keep := anL []
def zDM (N : Nat) : GamK := gam (P := qP) [zBD N, zBB N]
def zk7 (N : Nat) : FSpec where
 X := RT7 × Int × Int
 Y := Bool
 ash := [[none, none, none, none, none, none, none, none, none, none, none, none, none, some 9, none, none, none, none, none, none, none, none, none, none, none, none, none, none, none], [none], [none]]
 S := ⟨[[none]], [], [], [], []⟩
 pat := fun a b => rdA [.agg RK7, .int .i64, .int .i64] [] a b fun ⟨a0, a1, a2, _⟩ _ => (a0, a1, a2)
 args := fun x => [(AV.agg (zK x.1)), (AV.v (.int .i64 x.2.1)), (AV.v (.int .i64 x.2.2))]
 ret := fun y => ⟨(AV.v (.bool y)), [], none, [], [], [], none⟩
 t := fun x α k => (match (decide (x.1.1 < 1)) with | true => (k false) | false => (match (decide (x.1.1 > 6)) with | true => (k false) | false => (match (decide (x.1.2.1 < 0)) with | true => (k false) | false => (match (decide (x.1.2.1 > 18014398509481984)) with | true => (k false) | false => (match zls N (zw x.1) with | some y1 => (match (!y1) with | true => (k false) | false => (if 0 <= x.1.1 /\ x.1.1 < 7 then (match ((gtab3.map AV.v).drop (x.1.1.toNat * 1))[0]? with | some x2 => (match x2 with | .v (.bool b3) => (match b3 with | true => (match (!(x.1.2.2.1.toList == (⟨#[]⟩ : ByteArray).toList)) with | true => (k false) | false => (if 0 <= x.1.1 /\ x.1.1 < 7 then (match ((gtab3.map AV.v).drop (x.1.1.toNat * 1))[0]? with | some x4 => (match x4 with | .v (.bool b5) => (match (!b5) with | true => (match ztW N x.1.2.2.1 with | some y6 => (match (!y6) with | true => (k false) | false => (match (x.1.1 == 5) with | true => (match (decide (x.1.2.2.2.1 >= 0)) with | true => (match (decide (x.1.2.2.2.1 < x.2.2)) with | true => (k (x.1.2.2.2.1 != x.2.1)) | false => (k false)) | false => (k false)) | false => (k (x.1.2.2.2.1 == 0)))) | none => none) | false => (match (x.1.1 == 5) with | true => (match (decide (x.1.2.2.2.1 >= 0)) with | true => (match (decide (x.1.2.2.2.1 < x.2.2)) with | true => (k (x.1.2.2.2.1 != x.2.1)) | false => (k false)) | false => (k false)) | false => (k (x.1.2.2.2.1 == 0)))) | _ => none) | none => none) else none)) | false => (if 0 <= x.1.1 /\ x.1.1 < 7 then (match ((gtab3.map AV.v).drop (x.1.1.toNat * 1))[0]? with | some x7 => (match x7 with | .v (.bool b8) => (match (!b8) with | true => (match ztW N x.1.2.2.1 with | some y9 => (match (!y9) with | true => (k false) | false => (match (x.1.1 == 5) with | true => (match (decide (x.1.2.2.2.1 >= 0)) with | true => (match (decide (x.1.2.2.2.1 < x.2.2)) with | true => (k (x.1.2.2.2.1 != x.2.1)) | false => (k false)) | false => (k false)) | false => (k (x.1.2.2.2.1 == 0)))) | none => none) | false => (match (x.1.1 == 5) with | true => (match (decide (x.1.2.2.2.1 >= 0)) with | true => (match (decide (x.1.2.2.2.1 < x.2.2)) with | true => (k (x.1.2.2.2.1 != x.2.1)) | false => (k false)) | false => (k false)) | false => (k (x.1.2.2.2.1 == 0)))) | _ => none) | none => none) else none)) | _ => none) | none => none) else none)) | none => none)))))
abbrev zyv (N : Nat) (x : RT7 × Int × Int) : Option (Bool) := (zk7 N).d x
theorem zs0 (N : Nat) : Zc (zk7 N).t := by
 intro x α β k k' r r' h h1
 revert h
 dsimp only [zk7]
 (repeat' (first | (with_reducible refine ze ?_ ?_) | split)) <;> intro h <;> first | exact h1 _ h | cases h
theorem zs1 (N : Nat) : Ze (zn qP) (zDM N) zwK (lam N []) Tryz.f57 (zk7 N) := fun x => by kernel_rfl
def zDL (N : Nat) : Ent qP := zx (zd qP) (zi _) zl 57 Tryz.f57 Tryz.func57 rfl zwK (lam N []) (zm (l := []) an (by kernel_rfl)) (zk7 N) (fun _ => ⟨rfl, rfl⟩) (zs1 N) (fun _ _ _ h => zu h (fun _ _ => rfl) (fun _ _ => rfl)) (zs0 N)
def zwI : Nat -> Keep × Keep := anL []
def zDJ (N : Nat) : GamK := gam (P := qP) [zEf N]
def zk5 (N : Nat) : FSpec where
 X := RT0 × RT0
 Y := Bool
 ash := [[none, none, none, none, none, none, none, none, none, some 9, none, none, none, none, none, none, none, none, none, none, none, none, none, none, none], [none, none, none, none, none, none, none, none, none, some 9, none, none, none, none, none, none, none, none, none, none, none, none, none, none, none]]
 S := ⟨[[none]], [], [], [], []⟩
 pat := fun a b => rdA [.agg RK0, .agg RK0] [] a b fun ⟨a0, a1, _⟩ _ => (a0, a1)
 args := fun x => [(AV.agg (zB x.1)), (AV.agg (zB x.2))]
 ret := fun y => ⟨(AV.v (.bool y)), [], none, [], [], [], none⟩
 t := fun x α k => (match zBQ N ([(zB x.1)], [(zB x.2)]) with | some y1 => (k y1) | none => none)
abbrev zk4 (N : Nat) (x : RT0 × RT0) : Option (Bool) := (zk5 N).d x
theorem zsV (N : Nat) : Zc (zk5 N).t := by
 intro x α β k k' r r' h h1
 revert h
 dsimp only [zk5]
 (repeat' (first | (with_reducible refine ze ?_ ?_) | split)) <;> intro h <;> first | exact h1 _ h | cases h
theorem zsW (N : Nat) : Ze (zn qP) (zDJ N) zwI (lam N []) Tryz.f55 (zk5 N) := fun x => by kernel_rfl
def zBk (N : Nat) : Ent qP := zx (zd qP) (zi _) zl 55 Tryz.f55 Tryz.func55 rfl zwI (lam N []) (zm (l := []) an (by kernel_rfl)) (zk5 N) (fun _ => ⟨rfl, rfl⟩) (zsW N) (fun _ _ _ h => zu h (fun _ _ => rfl) (fun _ _ => rfl)) (zsV N)
def Jd : Nat -> Keep × Keep := anL [(8, ⟨[1, 14, 15], [], [1], [(13, 1)], [], [], [], [], false, none, []⟩, qK [2] [] []), (21, ⟨[1, 3, 4, 14, 15, 40, 41], [], [1, 4], [(13, 1), (39, 29)], [], [], [], [], false, none, []⟩, ⟨[1, 2, 14, 15], [], [1], [(13, 1)], [], [], [], [], false, none, []⟩)]
def zyc (N : Nat) : GamK := gam (P := qP) [zDL N, zBk N]
def ZS (N : Nat) : LSpec where
 X := qL × qL × Int × Int × Int × Int × Int × qL × qL
 Y := (qL × Bool × Int × Int × qL) ⊕ (qL × Int × Int × qL)
 p := fun s => rdS 92 0 [(13, .lst 1), (39, .lst 29), (1, .ptr 1 0), (3, .int .i64), (4, .ptr 4 0), (14, .int .i64), (15, .int .i64), (40, .int .i64), (41, .int .i64)] [(1, .cells [.lst 1]), (4, .cells [.lst 29])] s fun ⟨a0, a1, _, a2, _, a3, a4, a5, a6, _⟩ ⟨⟨a7, _⟩, ⟨a8, _⟩, _⟩ => (a0, a1, a2, a3, a4, a5, a6, a7, a8)
 st := fun u21 => mkS 92 [(13, (AV.list 1 u21.1 none)), (39, (AV.list 29 u21.2.1 none)), (1, (AV.ptr 1 0)), (3, (qI u21.2.2.1)), (4, (AV.ptr 4 0)), (14, (qI u21.2.2.2.1)), (15, (qI u21.2.2.2.2.1)), (40, (qI u21.2.2.2.2.2.1)), (41, (qI u21.2.2.2.2.2.2.1))] [(1, [(AV.list 1 u21.2.2.2.2.2.2.2.1 none)]), (4, [(AV.list 29 u21.2.2.2.2.2.2.2.2 none)])] (Jd 21).1.toks 0
 out := fun y => match y with
  | .inl y => (.ret, mkS 92 [(13, (AV.list 1 y.1 none)), (1, (AV.ptr 1 0)), (2, (AV.v (.bool y.2.1))), (14, (qI y.2.2.1)), (15, (qI y.2.2.2.1))] [(1, [(AV.list 1 y.2.2.2.2 none)])] (Jd 21).2.toks 0)
  | .inr y => (.exit 2, mkS 92 [(13, (AV.list 1 y.1 none)), (1, (AV.ptr 1 0)), (14, (qI y.2.1)), (15, (qI y.2.2.1))] [(1, [(AV.list 1 y.2.2.2 none)])] (Jd 21).2.toks 0)
 b := fun u21 α kn ke => (match (decide (u21.2.2.2.2.2.2.1 < u21.2.2.2.2.2.1)) with | true => (if 0 <= u21.2.2.2.2.2.2.1 then (match u21.2.1[u21.2.2.2.2.2.2.1.toNat]? with | some c17 => (match zlD c17 with | some e18 => (match zyv N (e18, u21.2.2.1, (u21.2.2.2.2.2.2.2.1.length : Int)) with | some y19 => (match (!y19) with | true => (ke (.inl (u21.1, false, u21.2.2.2.1, u21.2.2.2.2.1, u21.2.2.2.2.2.2.2.1))) | false => (match (u21.2.2.2.2.2.2.1 == 0) with | true => (kn (u21.1, u21.2.1, u21.2.2.1, u21.2.2.2.1, u21.2.2.2.2.1, u21.2.2.2.2.2.1, (i64 (u21.2.2.2.2.2.2.1 + 1)), u21.2.2.2.2.2.2.2)) | false => (if 0 <= (i64 (u21.2.2.2.2.2.2.1 - 1)) then (match u21.2.2.2.2.2.2.2.2[(i64 (u21.2.2.2.2.2.2.1 - 1)).toNat]? with | some c20 => (match zlD c20 with | some e21 => (match (decide (e18.2.1 < e21.2.1)) with | true => (ke (.inl (u21.1, false, u21.2.2.2.1, u21.2.2.2.2.1, u21.2.2.2.2.2.2.2.1))) | false => (if 0 <= e18.1 /\ e18.1 < 7 then (if 0 <= e21.1 /\ e21.1 < 7 then (match (((gtab1.map AV.v).drop (e18.1.toNat * 7)).drop (e21.1.toNat * 1))[0]? with | some x22 => (match x22 with | .v (.bool b23) => (match (!b23) with | true => (ke (.inl (u21.1, false, u21.2.2.2.1, u21.2.2.2.2.1, u21.2.2.2.2.2.2.2.1))) | false => (if 0 <= e18.1 /\ e18.1 < 7 then (match ((gtab2.map AV.v).drop (e18.1.toNat * 1))[0]? with | some x24 => (match x24 with | .v (.bool b25) => (match b25 with | true => (match zk4 N ((zw e18), (zw e21)) with | some y26 => (match (!y26) with | true => (ke (.inl (u21.1, false, u21.2.2.2.1, u21.2.2.2.2.1, u21.2.2.2.2.2.2.2.1))) | false => (kn (u21.1, u21.2.1, u21.2.2.1, u21.2.2.2.1, u21.2.2.2.2.1, u21.2.2.2.2.2.1, (i64 (u21.2.2.2.2.2.2.1 + 1)), u21.2.2.2.2.2.2.2))) | none => none) | false => (kn (u21.1, u21.2.1, u21.2.2.1, u21.2.2.2.1, u21.2.2.2.2.1, u21.2.2.2.2.2.1, (i64 (u21.2.2.2.2.2.2.1 + 1)), u21.2.2.2.2.2.2.2))) | _ => none) | none => none) else none)) | _ => none) | none => none) else none) else none)) | none => none) | none => none) else none))) | none => none) | none => none) | none => none) else none) | false => (ke (.inr (u21.1, u21.2.2.2.1, u21.2.2.2.2.1, u21.2.2.2.2.2.2.2.1))))
abbrev znO (N : Nat) (x : qL × qL × Int × Int × Int × Int × Int × qL × qL) : Option ((qL × Bool × Int × Int × qL) ⊕ (qL × Int × Int × qL)) := (ZS N).L N x
def jD (N : Nat) : LSpec where
 X := qL × Int × Int × qL
 Y := (Bool) ⊕ (Unit)
 p := fun s => rdS 92 0 [(13, .lst 1), (1, .ptr 1 0), (14, .int .i64), (15, .int .i64)] [(1, .cells [.lst 1])] s fun ⟨a0, _, a1, a2, _⟩ ⟨⟨a3, _⟩, _⟩ => (a0, a1, a2, a3)
 st := fun u8 => mkS 92 [(13, (AV.list 1 u8.1 none)), (1, (AV.ptr 1 0)), (14, (qI u8.2.1)), (15, (qI u8.2.2.1))] [(1, [(AV.list 1 u8.2.2.2 none)])] (Jd 8).1.toks 0
 out := fun y => match y with
  | .inl y => (.ret, mkS 92 [(2, (AV.v (.bool y)))] [] (Jd 8).2.toks 0)
  | .inr y => (.exit 0, mkS 92 [] [] (Jd 8).2.toks 0)
 b := fun u8 α kn ke => (match (decide (u8.2.2.1 < u8.2.1)) with | true => (if 0 <= u8.2.2.1 then (match u8.1[u8.2.2.1.toNat]? with | some c1 => (match zgc c1 with | some e2 => (match (decide ((e2.1.length : Int) < 1)) with | true => (ke (.inl false)) | false => (match (decide ((e2.1.length : Int) > 100)) with | true => (ke (.inl false)) | false => (if 0 <= (0 : Int) then (match e2.1[(0 : Int).toNat]? with | some c3 => (match (c3.drop 0)[0]? with | some x4 => (match x4 with | .v (.int q6 n5) => (if q6 = .i64 then (match (n5 != 1) with | true => (ke (.inl false)) | false => (match znO N (u8.1, e2.1, u8.2.2.1, u8.2.1, u8.2.2.1, (e2.1.length : Int), 0, u8.2.2.2, e2.1) with | some y27 => (match y27 with | .inl z28 => (ke (.inl z28.2.1)) | .inr z29 => (kn (z29.1, z29.2.1, (i64 (z29.2.2.1 + 1)), z29.2.2.2))) | none => none)) else none) | _ => none) | none => none) | none => none) else none))) | none => none) | none => none) else none) | false => (ke (.inr ())))
abbrev zwq (N : Nat) (x : qL × Int × Int × qL) : Option ((Bool) ⊕ (Unit)) := (jD N).L N x
def zd3 (N : Nat) : FSpec where
 X := qL
 Y := Bool
 ash := [[some 1]]
 S := ⟨[[none]], [], [], [], []⟩
 pat := fun a b => zj a fun v1 c2 => Z3 v1 fun c3 => zj c3 fun c4 c5 => Z1 1 c4 fun a0 => zR c5 <| zR c2 <| zR b <| some a0
 args := fun x => [(AV.agg [(AV.list 1 x none)])]
 ret := fun y => ⟨(AV.v (.bool y)), [], none, [], [], [], none⟩
 t := fun x α k => (match (decide ((x.length : Int) > 500)) with | true => (k false) | false => (match zwq N (x, (x.length : Int), 0, x) with | some y30 => (match y30 with | .inl z31 => (k z31) | .inr z32 => (k true)) | none => none))
abbrev zcZ (N : Nat) (x : qL) : Option (Bool) := (zd3 N).d x
def zbM (N : Nat) : List (Nat × LSpec) := [(8, jD N), (21, ZS N)]
def zfp : Code := Tryz.f28.body.getD .skip
theorem znQ (N : Nat) : Par (ZS N).b := by
 intro x α β kn ke kn' ke' r r' h h1 h2
 revert h
 dsimp only [ZS]
 (repeat' (first | (with_reducible refine ze ?_ ?_) | split)) <;> intro h <;> first | exact h1 _ h | exact h2 _ h | cases h
theorem zkB (N : Nat) : je (zn qP) (zyc N) Jd N (zbM N) 21 zfp (ZS N) := fun x α kn ke => by kernel_rfl
theorem zeB (N : Nat) : ZE qP Jd N (zbM N) 21 (zc 21 zfp) :=
 zC (zd qP) (zi _) zl Jd N (zbM N) 21 zfp (l := []) (by kernel_rfl) (by kernel_rfl) an (ZS N) rfl (fun s x hc h => by dsimp only [ZS] at h; exact zI hc h (fun _ _ => rfl) rfl rfl rfl) (fun _ => rfl) (zkB N) (znQ N)
theorem zrT (N : Nat) : Par (jD N).b := by
 intro x α β kn ke kn' ke' r r' h h1 h2
 revert h
 dsimp only [jD]
 (repeat' (first | (with_reducible refine ze ?_ ?_) | split)) <;> intro h <;> first | exact h1 _ h | exact h2 _ h | cases h
theorem znN (N : Nat) : je (zn qP) (zyc N) Jd N (zbM N) 8 zfp (jD N) := fun x α kn ke => by kernel_rfl
theorem znP (N : Nat) : ZE qP Jd N (zbM N) 8 (zc 8 zfp) :=
 zC (zd qP) (zi _) zl Jd N (zbM N) 8 zfp (l := [(21, zc 21 zfp)]) (by kernel_rfl) (by kernel_rfl) (al (zeB N) an) (jD N) rfl (fun s x hc h => by dsimp only [jD] at h; exact zI hc h (fun _ _ => rfl) rfl rfl rfl) (fun _ => rfl) (znN N) (zrT N)
theorem zrU (N : Nat) : Zc (zd3 N).t := by
 intro x α β k k' r r' h h1
 revert h
 dsimp only [zd3]
 (repeat' (first | (with_reducible refine ze ?_ ?_) | split)) <;> intro h <;> first | exact h1 _ h | cases h
theorem zrV (N : Nat) : Ze (zn qP) (zyc N) Jd (lam N (zbM N)) Tryz.f28 (zd3 N) := fun x => by kernel_rfl
theorem zyd (N : Nat) (a : List AV) (b : qL) (x : (zd3 N).X) (h : (zd3 N).pat a b = some x) : a = (zd3 N).args x /\ b = (zd3 N).bs x := by
 obtain ⟨v1, c2, rfl, g0⟩ := zb (show zj _ _ = some x from h)
 obtain ⟨c3, rfl, g1⟩ := zO g0; clear g0
 obtain ⟨c4, c5, rfl, g2⟩ := zb g1; clear g1
 obtain ⟨a0, rfl, g3⟩ := zq g2; clear g2
 obtain ⟨rfl, g4⟩ := zg g3; clear g3
 obtain ⟨rfl, g5⟩ := zg g4; clear g4
 obtain ⟨rfl, g6⟩ := zg g5; clear g5
 clear h
 cases g6
 exact ⟨rfl, rfl⟩
def zrS (N : Nat) : Ent qP := zx (zd qP) (zi _) zl 28 Tryz.f28 Tryz.func28 rfl Jd (lam N (zbM N)) (zm (l := [(8, zc 8 zfp), (21, zc 21 zfp)]) (al (znP N) (al (zeB N) an)) (by kernel_rfl)) (zd3 N) (fun _ => ⟨rfl, rfl⟩) (zrV N) (zyd N) (zrU N)
def JV : Nat -> Keep × Keep := anL [(5, ⟨[3, 10, 11], [], [], [(9, 1)], [], [], [], [], false, none, []⟩, qK [3] [] []), (14, ⟨[3, 10, 11, 17, 18], [], [], [(9, 1), (16, 29)], [], [], [], [], false, none, []⟩, ⟨[3, 10, 11], [], [], [(9, 1)], [], [], [], [], false, none, []⟩)]
def zyP (N : Nat) : GamK := gam (P := qP) []
def ZX (N : Nat) : LSpec where
 X := qL × qL × Int × Int × Int × Int × Int
 Y := (qL × Int × Int × Int)
 p := fun s => rdS 29 0 [(9, .lst 1), (16, .lst 29), (3, .int .i64), (10, .int .i64), (11, .int .i64), (17, .int .i64), (18, .int .i64)] [] s fun ⟨a0, a1, a2, a3, a4, a5, a6, _⟩ _ => (a0, a1, a2, a3, a4, a5, a6)
 st := fun u14 => mkS 29 [(9, (AV.list 1 u14.1 none)), (16, (AV.list 29 u14.2.1 none)), (3, (qI u14.2.2.1)), (10, (qI u14.2.2.2.1)), (11, (qI u14.2.2.2.2.1)), (17, (qI u14.2.2.2.2.2.1)), (18, (qI u14.2.2.2.2.2.2))] [] (JV 14).1.toks 0
 out := fun y => (.exit 2, mkS 29 [(9, (AV.list 1 y.1 none)), (3, (qI y.2.1)), (10, (qI y.2.2.1)), (11, (qI y.2.2.2))] [] (JV 14).2.toks 0)
 b := fun u14 α kn ke => (match (decide (u14.2.2.2.2.2.2 < u14.2.2.2.2.2.1)) with | true => (if 0 <= u14.2.2.2.2.2.2 then (match u14.2.1[u14.2.2.2.2.2.2.toNat]? with | some c3 => (match zlD c3 with | some e4 => (kn (u14.1, u14.2.1, (if e4.2.1 > u14.2.2.1 then e4.2.1 else u14.2.2.1), u14.2.2.2.1, u14.2.2.2.2.1, u14.2.2.2.2.2.1, (i64 (u14.2.2.2.2.2.2 + 1)))) | none => none) | none => none) else none) | false => (ke (u14.1, u14.2.2.1, u14.2.2.2.1, u14.2.2.2.2.1)))
abbrev zpN (N : Nat) (x : qL × qL × Int × Int × Int × Int × Int) : Option ((qL × Int × Int × Int)) := (ZX N).L N x
def jL (N : Nat) : LSpec where
 X := qL × Int × Int × Int
 Y := (Int)
 p := fun s => rdS 29 0 [(9, .lst 1), (3, .int .i64), (10, .int .i64), (11, .int .i64)] [] s fun ⟨a0, a1, a2, a3, _⟩ _ => (a0, a1, a2, a3)
 st := fun u5 => mkS 29 [(9, (AV.list 1 u5.1 none)), (3, (qI u5.2.1)), (10, (qI u5.2.2.1)), (11, (qI u5.2.2.2))] [] (JV 5).1.toks 0
 out := fun y => (.exit 0, mkS 29 [(3, (qI y))] [] (JV 5).2.toks 0)
 b := fun u5 α kn ke => (match (decide (u5.2.2.2 < u5.2.2.1)) with | true => (if 0 <= u5.2.2.2 then (match u5.1[u5.2.2.2.toNat]? with | some c1 => (match zgc c1 with | some e2 => (match zpN N (u5.1, e2.1, u5.2.1, u5.2.2.1, u5.2.2.2, (e2.1.length : Int), 0) with | some y5 => (kn (y5.1, y5.2.1, y5.2.2.1, (i64 (y5.2.2.2 + 1)))) | none => none) | none => none) | none => none) else none) | false => (ke u5.2.1))
abbrev zw9 (N : Nat) (x : qL × Int × Int × Int) : Option ((Int)) := (jL N).L N x
def zeh (N : Nat) : FSpec where
 X := qL
 Y := Int
 ash := [[some 1]]
 S := ⟨[[none]], [], [], [], []⟩
 pat := fun a b => zj a fun v1 c2 => Z3 v1 fun c3 => zj c3 fun c4 c5 => Z1 1 c4 fun a0 => zR c5 <| zR c2 <| zR b <| some a0
 args := fun x => [(AV.agg [(AV.list 1 x none)])]
 ret := fun y => ⟨(AV.v (.int .i64 y)), [], none, [], [], [], none⟩
 t := fun x α k => (match zw9 N (x, 0, (x.length : Int), 0) with | some y6 => (k y6) | none => none)
abbrev zBN (N : Nat) (x : qL) : Option (Int) := (zeh N).d x
def zb4 (N : Nat) : List (Nat × LSpec) := [(5, jL N), (14, ZX N)]
def zfB : Code := Tryz.f89.body.getD .skip
theorem zpP (N : Nat) : Par (ZX N).b := by
 intro x α β kn ke kn' ke' r r' h h1 h2
 revert h
 dsimp only [ZX]
 (repeat' (first | (with_reducible refine ze ?_ ?_) | split)) <;> intro h <;> first | exact h1 _ h | exact h2 _ h | cases h
theorem zlv (N : Nat) : je (zn qP) (zyP N) JV N (zb4 N) 14 zfB (ZX N) := fun x α kn ke => by kernel_rfl
theorem zeO (N : Nat) : ZE qP JV N (zb4 N) 14 (zc 14 zfB) :=
 zC (zd qP) (zi _) zl JV N (zb4 N) 14 zfB (l := []) (by kernel_rfl) (by kernel_rfl) an (ZX N) rfl (fun s x hc h => by dsimp only [ZX] at h; exact zI hc h (fun _ _ => rfl) rfl rfl rfl) (fun _ => rfl) (zlv N) (zpP N)
theorem zuj (N : Nat) : Par (jL N).b := by
 intro x α β kn ke kn' ke' r r' h h1 h2
 revert h
 dsimp only [jL]
 (repeat' (first | (with_reducible refine ze ?_ ?_) | split)) <;> intro h <;> first | exact h1 _ h | exact h2 _ h | cases h
theorem zpM (N : Nat) : je (zn qP) (zyP N) JV N (zb4 N) 5 zfB (jL N) := fun x α kn ke => by kernel_rfl
theorem zpO (N : Nat) : ZE qP JV N (zb4 N) 5 (zc 5 zfB) :=
 zC (zd qP) (zi _) zl JV N (zb4 N) 5 zfB (l := [(14, zc 14 zfB)]) (by kernel_rfl) (by kernel_rfl) (al (zeO N) an) (jL N) rfl (fun s x hc h => by dsimp only [jL] at h; exact zI hc h (fun _ _ => rfl) rfl rfl rfl) (fun _ => rfl) (zpM N) (zuj N)
theorem zuk (N : Nat) : Zc (zeh N).t := by
 intro x α β k k' r r' h h1
 revert h
 dsimp only [zeh]
 (repeat' (first | (with_reducible refine ze ?_ ?_) | split)) <;> intro h <;> first | exact h1 _ h | cases h
theorem zul (N : Nat) : Ze (zn qP) (zyP N) JV (lam N (zb4 N)) Tryz.f89 (zeh N) := fun x => by kernel_rfl
theorem zyQ (N : Nat) (a : List AV) (b : qL) (x : (zeh N).X) (h : (zeh N).pat a b = some x) : a = (zeh N).args x /\ b = (zeh N).bs x := by
 obtain ⟨v1, c2, rfl, g0⟩ := zb (show zj _ _ = some x from h)
 obtain ⟨c3, rfl, g1⟩ := zO g0; clear g0
 obtain ⟨c4, c5, rfl, g2⟩ := zb g1; clear g1
 obtain ⟨a0, rfl, g3⟩ := zq g2; clear g2
 obtain ⟨rfl, g4⟩ := zg g3; clear g3
 obtain ⟨rfl, g5⟩ := zg g4; clear g4
 obtain ⟨rfl, g6⟩ := zg g5; clear g5
 clear h
 cases g6
 exact ⟨rfl, rfl⟩
def zEe (N : Nat) : Ent qP := zx (zd qP) (zi _) zl 89 Tryz.f89 Tryz.func89 rfl JV (lam N (zb4 N)) (zm (l := [(5, zc 5 zfB), (14, zc 14 zfB)]) (al (zpO N) (al (zeO N) an)) (by kernel_rfl)) (zeh N) (fun _ => ⟨rfl, rfl⟩) (zul N) (zyQ N) (zuk N)
def zwE : Nat -> Keep × Keep := anL []
def zDG (N : Nat) : GamK := gam (P := qP) [zEe N]
def zeb (N : Nat) : FSpec where
 X := qL × Int
 Y := Int
 ash := [[some 1], [none]]
 S := ⟨[[none]], [], [], [], []⟩
 pat := fun a b => zj a fun v1 c2 => Z3 v1 fun c3 => zj c3 fun c4 c5 => Z1 1 c4 fun a0 => zR c5 <| zj c2 fun v6 c7 => jQ .i64 v6 fun a1 => zR c7 <| zR b <| some (a0, a1)
 args := fun x => [(AV.agg [(AV.list 1 x.1 none)]), (AV.v (.int .i64 x.2))]
 ret := fun y => ⟨(AV.v (.int .i64 y)), [], none, [], [], [], none⟩
 t := fun x α k => (match (decide (x.2 < 0)) with | true => (k 2) | false => (match (decide (x.2 > 18014398509481984)) with | true => (k 2) | false => (match zBN N x.1 with | some y1 => (match (decide (x.2 < y1)) with | true => (k 9) | false => (k 0)) | none => none)))
abbrev zsL (N : Nat) (x : qL × Int) : Option (Int) := (zeb N).d x
theorem zsM (N : Nat) : Zc (zeb N).t := by
 intro x α β k k' r r' h h1
 revert h
 dsimp only [zeb]
 (repeat' (first | (with_reducible refine ze ?_ ?_) | split)) <;> intro h <;> first | exact h1 _ h | cases h
theorem zsN (N : Nat) : Ze (zn qP) (zDG N) zwE (lam N []) Tryz.f51 (zeb N) := fun x => by kernel_rfl
theorem zyt (N : Nat) (a : List AV) (b : qL) (x : (zeb N).X) (h : (zeb N).pat a b = some x) : a = (zeb N).args x /\ b = (zeb N).bs x := by
 obtain ⟨v1, c2, rfl, g0⟩ := zb (show zj _ _ = some x from h)
 obtain ⟨c3, rfl, g1⟩ := zO g0; clear g0
 obtain ⟨c4, c5, rfl, g2⟩ := zb g1; clear g1
 obtain ⟨a0, rfl, g3⟩ := zq g2; clear g2
 obtain ⟨rfl, g4⟩ := zg g3; clear g3
 obtain ⟨v6, c7, rfl, g5⟩ := zb g4; clear g4
 obtain ⟨a1, rfl, g6⟩ := zA g5; clear g5
 obtain ⟨rfl, g7⟩ := zg g6; clear g6
 obtain ⟨rfl, g8⟩ := zg g7; clear g7
 clear h
 cases g8
 exact ⟨rfl, rfl⟩
def zBi (N : Nat) : Ent qP := zx (zd qP) (zi _) zl 51 Tryz.f51 Tryz.func51 rfl zwE (lam N []) (zm (l := []) an (by kernel_rfl)) (zeb N) (fun _ => ⟨rfl, rfl⟩) (zsN N) (zyt N) (zsM N)
def zxb : Nat -> Keep × Keep := anL []
def zEi (N : Nat) : GamK := gam (P := qP) []
def zlx (N : Nat) : FSpec where
 X := qL
 Y := qL
 ash := [[some 9]]
 S := ⟨[[some 2000009]], [], [], [], []⟩
 pat := fun a b => rdA [.lst 9] [] a b fun ⟨a0, _⟩ _ => a0
 args := fun x => [(AV.list 9 x none)]
 ret := fun y => ⟨(AV.list 9 y (some 2560000000)), [], none, [], [2560000000], [], none⟩
 t := fun x α k => (match x with | [] => (zxp (k ([] : qL)) (if (([] : qL).length + x.length) * 104 <= zh then (k (([] : qL) ++ x)) else none)) | _ :: _ => (if (([] : qL).length + x.length) * 104 <= zh then (k (([] : qL) ++ x)) else none))
abbrev zuo (N : Nat) (x : qL) : Option (qL) := (zlx N).d x
theorem zup (N : Nat) : Zc (zlx N).t := by
 intro x α β k k' r r' h h1
 revert h
 dsimp only [zlx]
 (repeat' (first | (with_reducible refine ze ?_ ?_) | (with_reducible refine zvv ?_ ?_) | split)) <;> intro h <;> first | exact h1 _ h | cases h
theorem zuq (N : Nat) : Ze (zn qP) (zEi N) zxb (lam N []) Tryz.f91 (zlx N) := fun x => by kernel_rfl
def zEh (N : Nat) : Ent qP := zx (zd qP) (zi _) zl 91 Tryz.f91 Tryz.func91 rfl zxb (lam N []) (zm (l := []) an (by kernel_rfl)) (zlx N) (fun _ => ⟨rfl, rfl⟩) (zuq N) (fun _ _ _ h => zu h (fun _ _ => rfl) (fun _ _ => rfl)) (zup N)
def zwJ : Nat -> Keep × Keep := anL []
def zDK (N : Nat) : GamK := gam (P := qP) [zEh N]
def zk6 (N : Nat) : FSpec where
 X := RT0
 Y := RT0
 ash := [[none, none, none, none, none, none, none, none, none, some 9, none, none, none, none, none, none, none, none, none, none, none, none, none, none, none]]
 S := ⟨[[none, none, none, none, none, none, none, none, none, some 9, none, none, none, none, none, none, none, none, none, none, none, none, none, none, none]], [], [], [], []⟩
 pat := fun a b => rdA [.agg RK0] [] a b fun ⟨a0, _⟩ _ => a0
 args := fun x => [(AV.agg (zB x))]
 ret := fun y => ⟨(AV.agg (zB y)), [], none, [], [], [], none⟩
 t := fun x α k => (match zuo N x.2.2.2.2.2.2.2.2.2.1 with | some y1 => (k (x.1, x.2.1, x.2.2.1, x.2.2.2.1, x.2.2.2.2.1, x.2.2.2.2.2.1, x.2.2.2.2.2.2.1, x.2.2.2.2.2.2.2.1, x.2.2.2.2.2.2.2.2.1, y1, x.2.2.2.2.2.2.2.2.2.2)) | none => none)
abbrev zcs (N : Nat) (x : RT0) : Option (RT0) := (zk6 N).d x
theorem zsY (N : Nat) : Zc (zk6 N).t := by
 intro x α β k k' r r' h h1
 revert h
 dsimp only [zk6]
 (repeat' (first | (with_reducible refine ze ?_ ?_) | split)) <;> intro h <;> first | exact h1 _ h | cases h
theorem zsZ (N : Nat) : Ze (zn qP) (zDK N) zwJ (lam N []) Tryz.f56 (zk6 N) := fun x => by kernel_rfl
def zsX (N : Nat) : Ent qP := zx (zd qP) (zi _) zl 56 Tryz.f56 Tryz.func56 rfl zwJ (lam N []) (zm (l := []) an (by kernel_rfl)) (zk6 N) (fun _ => ⟨rfl, rfl⟩) (zsZ N) (fun _ _ _ h => zu h (fun _ _ => rfl) (fun _ _ => rfl)) (zsY N)
def zmK : Nat -> Keep × Keep := anL []
def zAt (N : Nat) : GamK := gam (P := qP) []
def zgj (N : Nat) : FSpec where
 X := Int × Int
 Y := Int × Int
 ash := [[none], [none]]
 S := ⟨[[none], [none]], [], [], [], []⟩
 pat := fun a b => rdA [.int .u64, .int .u64] [] a b fun ⟨a0, a1, _⟩ _ => (a0, a1)
 args := fun x => [(AV.v (.int .u64 x.1)), (AV.v (.int .u64 x.2))]
 ret := fun y => ⟨(AV.tup [(AV.v (.int .u64 y.1)), (AV.v (.int .u64 y.2))]), [], none, [], [], [], none⟩
 t := fun x α k => (k ((IntKind.u64.wrap ((IntKind.u64.wrap ((IntKind.u64.wrap ((shR .u64 x.1 (32 : Int)) * (shR .u64 x.2 (32 : Int)))) + (shR .u64 (IntKind.u64.wrap ((IntKind.u64.wrap ((shR .u64 x.1 (32 : Int)) * (zxl .u64 x.2 (4294967295 : Int)))) + (shR .u64 (IntKind.u64.wrap ((zxl .u64 x.1 (4294967295 : Int)) * (zxl .u64 x.2 (4294967295 : Int)))) (32 : Int)))) (32 : Int)))) + (shR .u64 (IntKind.u64.wrap ((zxl .u64 (IntKind.u64.wrap ((IntKind.u64.wrap ((shR .u64 x.1 (32 : Int)) * (zxl .u64 x.2 (4294967295 : Int)))) + (shR .u64 (IntKind.u64.wrap ((zxl .u64 x.1 (4294967295 : Int)) * (zxl .u64 x.2 (4294967295 : Int)))) (32 : Int)))) (4294967295 : Int)) + (IntKind.u64.wrap ((zxl .u64 x.1 (4294967295 : Int)) * (shR .u64 x.2 (32 : Int)))))) (32 : Int)))), (IntKind.u64.wrap (x.1 * x.2))))
abbrev zAr (N : Nat) (x : Int × Int) : Option (Int × Int) := (zgj N).d x
theorem zmL (N : Nat) : Zc (zgj N).t := by
 intro x α β k k' r r' h h1
 revert h
 dsimp only [zgj]
 (repeat' (first | (with_reducible refine ze ?_ ?_) | split)) <;> intro h <;> first | exact h1 _ h | cases h
theorem zmM (N : Nat) : Ze (zn qP) (zAt N) zmK (lam N []) Tryz.f108 (zgj N) := fun x => by kernel_rfl
def zAs (N : Nat) : Ent qP := zx (zd qP) (zi _) zl 108 Tryz.f108 Tryz.func108 rfl zmK (lam N []) (zm (l := []) an (by kernel_rfl)) (zgj N) (fun _ => ⟨rfl, rfl⟩) (zmM N) (fun _ _ _ h => zu h (fun _ _ => rfl) (fun _ _ => rfl)) (zmL N)
def zxd : Nat -> Keep × Keep := anL []
def zEn (N : Nat) : GamK := gam (P := qP) [zAs N]
def zpU (N : Nat) : FSpec where
 X := Int × Int
 Y := Int × Int
 ash := [[none], [none]]
 S := ⟨[[none], [none]], [], [], [], []⟩
 pat := fun a b => rdA [.int .u64, .int .u64] [] a b fun ⟨a0, a1, _⟩ _ => (a0, a1)
 args := fun x => [(AV.v (.int .u64 x.1)), (AV.v (.int .u64 x.2))]
 ret := fun y => ⟨(AV.tup [(AV.v (.int .u64 y.1)), (AV.v (.int .u64 y.2))]), [], none, [], [], [], none⟩
 t := fun x α k => (match zAr N x with | some y1 => (k y1) | none => none)
abbrev zEl (N : Nat) (x : Int × Int) : Option (Int × Int) := (zpU N).d x
theorem zux (N : Nat) : Zc (zpU N).t := by
 intro x α β k k' r r' h h1
 revert h
 dsimp only [zpU]
 (repeat' (first | (with_reducible refine ze ?_ ?_) | split)) <;> intro h <;> first | exact h1 _ h | cases h
theorem zuy (N : Nat) : Ze (zn qP) (zEn N) zxd (lam N []) Tryz.f95 (zpU N) := fun x => by kernel_rfl
def zEm (N : Nat) : Ent qP := zx (zd qP) (zi _) zl 95 Tryz.f95 Tryz.func95 rfl zxd (lam N []) (zm (l := []) an (by kernel_rfl)) (zpU N) (fun _ => ⟨rfl, rfl⟩) (zuy N) (fun _ _ _ h => zu h (fun _ _ => rfl) (fun _ _ => rfl)) (zux N)
def zwG : Nat -> Keep × Keep := anL []
def zDH (N : Nat) : GamK := gam (P := qP) []
def zfv (N : Nat) : FSpec where
 X := qL
 Y := RT7
 ash := [[some 29]]
 S := ⟨[[none, none, none, none, none, none, none, none, none, none, none, none, none, some 9, none, none, none, none, none, none, none, none, none, none, none, none, none, none, none]], [], [], [], []⟩
 pat := fun a b => zj a fun v1 c2 => Z3 v1 fun c3 => zj c3 fun c4 c5 => Z1 29 c4 fun a0 => zR c5 <| zR c2 <| zR b <| some a0
 args := fun x => [(AV.agg [(AV.list 29 x none)])]
 ret := fun y => ⟨(AV.agg (zK y)), [], none, [], [], [], none⟩
 t := fun x α k => (if 0 <= (i64 ((x.length : Int) - 1)) then (match x[(i64 ((x.length : Int) - 1)).toNat]? with | some c1 => (match zlD c1 with | some e2 => (k e2) | none => none) | none => none) else none)
abbrev zoP (N : Nat) (x : qL) : Option (RT7) := (zfv N).d x
theorem zsQ (N : Nat) : Zc (zfv N).t := by
 intro x α β k k' r r' h h1
 revert h
 dsimp only [zfv]
 (repeat' (first | (with_reducible refine ze ?_ ?_) | split)) <;> intro h <;> first | exact h1 _ h | cases h
theorem zsR (N : Nat) : Ze (zn qP) (zDH N) zwG (lam N []) Tryz.f53 (zfv N) := fun x => by kernel_rfl
theorem zyu (N : Nat) (a : List AV) (b : qL) (x : (zfv N).X) (h : (zfv N).pat a b = some x) : a = (zfv N).args x /\ b = (zfv N).bs x := by
 obtain ⟨v1, c2, rfl, g0⟩ := zb (show zj _ _ = some x from h)
 obtain ⟨c3, rfl, g1⟩ := zO g0; clear g0
 obtain ⟨c4, c5, rfl, g2⟩ := zb g1; clear g1
 obtain ⟨a0, rfl, g3⟩ := zq g2; clear g2
 obtain ⟨rfl, g4⟩ := zg g3; clear g3
 obtain ⟨rfl, g5⟩ := zg g4; clear g4
 obtain ⟨rfl, g6⟩ := zg g5; clear g5
 clear h
 cases g6
 exact ⟨rfl, rfl⟩
def zsP (N : Nat) : Ent qP := zx (zd qP) (zi _) zl 53 Tryz.f53 Tryz.func53 rfl zwG (lam N []) (zm (l := []) an (by kernel_rfl)) (zfv N) (fun _ => ⟨rfl, rfl⟩) (zsR N) (zyu N) (zsQ N)
def zw0 : Nat -> Keep × Keep := anL []
def zD1 (N : Nat) : GamK := gam (P := qP) []
def zpt (N : Nat) : FSpec where
 X := RT0 × RT0
 Y := Bool
 ash := [[none, none, none, none, none, none, none, none, none, some 9, none, none, none, none, none, none, none, none, none, none, none, none, none, none, none], [none, none, none, none, none, none, none, none, none, some 9, none, none, none, none, none, none, none, none, none, none, none, none, none, none, none]]
 S := ⟨[[none]], [], [], [], []⟩
 pat := fun a b => rdA [.agg RK0, .agg RK0] [] a b fun ⟨a0, a1, _⟩ _ => (a0, a1)
 args := fun x => [(AV.agg (zB x.1)), (AV.agg (zB x.2))]
 ret := fun y => ⟨(AV.v (.bool y)), [], none, [], [], [], none⟩
 t := fun x α k => (k (((x.1.1 == x.2.1) && ((x.1.2.1 == x.2.2.1) && ((x.1.2.2.1 == x.2.2.2.1) && ((x.1.2.2.2.1 == x.2.2.2.2.1) && true)))) && ((x.1.2.2.2.2.1 == x.2.2.2.2.2.1) && ((x.1.2.2.2.2.2.1 == x.2.2.2.2.2.2.1) && ((x.1.2.2.2.2.2.2.1 == x.2.2.2.2.2.2.2.1) && ((x.1.2.2.2.2.2.2.2.1 == x.2.2.2.2.2.2.2.2.1) && ((x.1.2.2.2.2.2.2.2.2.1 == x.2.2.2.2.2.2.2.2.2.1) && true)))))))
abbrev zyL (N : Nat) (x : RT0 × RT0) : Option (Bool) := (zpt N).d x
theorem ztI (N : Nat) : Zc (zpt N).t := by
 intro x α β k k' r r' h h1
 revert h
 dsimp only [zpt]
 (repeat' (first | (with_reducible refine ze ?_ ?_) | split)) <;> intro h <;> first | exact h1 _ h | cases h
theorem ztJ (N : Nat) : Ze (zn qP) (zD1 N) zw0 (lam N []) Tryz.f77 (zpt N) := fun x => by kernel_rfl
def zD0 (N : Nat) : Ent qP := zx (zd qP) (zi _) zl 77 Tryz.f77 Tryz.func77 rfl zw0 (lam N []) (zm (l := []) an (by kernel_rfl)) (zpt N) (fun _ => ⟨rfl, rfl⟩) (ztJ N) (fun _ _ _ h => zu h (fun _ _ => rfl) (fun _ _ => rfl)) (ztI N)
def zaW : Nat -> Keep × Keep := anL [(12, ⟨[7, 8], [], [30], [], [], [], [], [30], false, none, []⟩, ⟨[7], [], [30], [], [], [], [], [30], false, none, []⟩)]
def zwY (N : Nat) : GamK := gam (P := qP) [zEm N]
def JM (N : Nat) : LSpec where
 X := Nat × Int × qA
 Y := (Nat × qA)
 p := fun s => rdS 48 0 [(7, .vs0 30 1), (8, .int .i64)] [(30, .tt)] s fun ⟨a0, a1, _⟩ ⟨a2, _⟩ => (a0, a1, a2)
 st := fun u12 => mkS 48 [(7, (AV.vs 30 0 u12.1 1)), (8, (qI u12.2.1))] [(30, u12.2.2)] (zaW 12).1.toks 0
 out := fun y => (.exit 0, mkS 48 [(7, (AV.vs 30 0 y.1 1))] [(30, y.2)] (zaW 12).2.toks 0)
 b := fun u12 α kn ke => (match (decide (u12.2.1 < ((u12.1 : Nat) : Int))) with | true => (if 0 <= u12.2.1 /\ u12.2.1 <= (u12.1 : Int) then (if 0 <= u12.2.1 /\ u12.2.1 <= (u12.1 : Int) then (if (0 + (u12.2.1.toNat)) * 1 <= u12.2.2.length then (if ((0 + u12.2.1.toNat) + (u12.1 - u12.2.1.toNat)) * 1 <= u12.2.2.length then (kn (u12.1, (i64 (u12.2.1 + (((Nat.min (u12.2.1.toNat) (u12.1 - u12.2.1.toNat)) : Nat) : Int))), ((splice u12.2.2 ((0 + u12.2.1.toNat) * 1) ((u12.2.2.drop (0 * 1)).take ((Nat.min (u12.2.1.toNat) (u12.1 - u12.2.1.toNat)) * 1))).map dat0))) else none) else none) else none) else none) | false => (ke (u12.1, (u12.2.2.map dat0))))
abbrev ztC (N : Nat) (x : Nat × Int × qA) : Option ((Nat × qA)) := (JM N).L N x
def zgN (N : Nat) : FSpec where
 X := qL × Int
 Y := Nat × qA
 ash := [[some 1], [none]]
 S := ⟨[[some 1000001]], [], [], [], []⟩
 bm := true
 pat := fun a b => rdA [.lst 1, .int .i64] [] a b fun ⟨a0, a1, _⟩ _ => (a0, a1)
 args := fun x => [(AV.list 1 x.1 none), (AV.v (.int .i64 x.2))]
 ret := fun y => ⟨(AV.vs 0 0 y.1 1), [], some y.2, [], [], [], none⟩
 t := fun x α k => (match (decide (x.2 < 0)) with | true => none | false => (match zEl N ((IntKind.u64.wrap (x.1.length : Int)), (IntKind.u64.wrap x.2)) with | some y1 => (match (decide (y1.1 > 0)) with | true => none | false => (match (decide (y1.2 > 9223372036854775807)) with | true => none | false => (if 0 <= (IntKind.i64.wrap y1.2) /\ (IntKind.i64.wrap y1.2) <= (IntKind.i64.wrap y1.2) /\ (IntKind.i64.wrap y1.2).toNat * 8 <= zh then (if (0 + ((IntKind.i64.wrap y1.2).toNat)) * 1 <= (List.replicate (IntKind.i64.wrap y1.2).toNat (AV.v (.int .i64 0))).length then (match ztC N (((IntKind.i64.wrap y1.2).toNat), (((Nat.min x.1.length ((IntKind.i64.wrap y1.2).toNat)) : Nat) : Int), ((splice (List.replicate (IntKind.i64.wrap y1.2).toNat (AV.v (.int .i64 0))) (0 * 1) ((x.1.take (Nat.min x.1.length ((IntKind.i64.wrap y1.2).toNat))).flatten)).map dat0)) with | some y2 => (k (y2.1, (y2.2.map dat0))) | none => none) else none) else none))) | none => none))
abbrev zwX (N : Nat) (x : qL × Int) : Option (Nat × qA) := (zgN N).d x
def zdc (N : Nat) : List (Nat × LSpec) := [(12, JM N)]
def zjb : Code := Tryz.f75.body.getD .skip
theorem zli (N : Nat) : Par (JM N).b := by
 intro x α β kn ke kn' ke' r r' h h1 h2
 revert h
 dsimp only [JM]
 (repeat' (first | (with_reducible refine ze ?_ ?_) | split)) <;> intro h <;> first | exact h1 _ h | exact h2 _ h | cases h
theorem zhW (N : Nat) : je (zn qP) (zwY N) zaW N (zdc N) 12 zjb (JM N) := fun x α kn ke => by kernel_rfl
theorem zhX (N : Nat) : ZE qP zaW N (zdc N) 12 (zc 12 zjb) :=
 zC (zd qP) (zi _) zl zaW N (zdc N) 12 zjb (l := []) (by kernel_rfl) (by kernel_rfl) an (JM N) rfl (fun s x hc h => by dsimp only [JM] at h; exact zI hc h (fun _ _ => rfl) rfl rfl rfl) (fun _ => rfl) (zhW N) (zli N)
theorem zpf (N : Nat) : Zc (zgN N).t := by
 intro x α β k k' r r' h h1
 revert h
 dsimp only [zgN]
 (repeat' (first | (with_reducible refine ze ?_ ?_) | split)) <;> intro h <;> first | exact h1 _ h | cases h
theorem zpg (N : Nat) : Ze (zn qP) (zwY N) zaW (lam N (zdc N)) Tryz.f75 (zgN N) := fun x => by kernel_rfl
def zBx (N : Nat) : Ent qP := zx (zd qP) (zi _) zl 75 Tryz.f75 Tryz.func75 rfl zaW (lam N (zdc N)) (zm (l := [(12, zc 12 zjb)]) (al (zhX N) an) (by kernel_rfl)) (zgN N) (fun _ => ⟨rfl, rfl⟩) (zpg N) (fun _ _ _ h => zu h (fun _ _ => rfl) (fun _ _ => rfl)) (zpf N)
def Jk : Nat -> Keep × Keep := anL [(2, ⟨[0, 2, 3, 4, 12, 13], [], [0, 1, 2, 3, 4, 5], [(11, 1)], [], [], [], [4, 5], false, none, []⟩, ⟨[], [], [0, 1, 2, 3, 4, 5], [], [], [], [], [4, 5], false, none, []⟩), (14, ⟨[0, 2, 3, 4, 6, 7, 12, 13, 30, 31], [], [0, 1, 2, 3, 4, 5, 7], [(11, 1), (29, 25)], [], [], [], [4, 5], false, none, []⟩, ⟨[0, 2, 3, 4, 12, 13], [], [0, 1, 2, 3, 4, 5], [(11, 1)], [], [], [], [4, 5], false, none, []⟩)]
def zyJ (N : Nat) : GamK := gam (P := qP) [zsP N, zD0 N]
def Za (N : Nat) : LSpec where
 X := qL × qL × Int × Int × Int × Int × Int × qL × Nat × qL × Nat × qA × qA × qL
 Y := (qL × Int × Int × qL × Nat × qL × Nat × qA × qA)
 p := fun s => ze9 s.env.length 58 <| ze9 s.nin 6 <| Z1 1 (s.at 11) fun a0 => Z1 25 (s.at 29) fun a1 => pFn 77 (s.at 0) fun c5 c6 => zR c5 <| zR c6 <| zbr 1 0 (s.at 2) <| zbr 2 0 (s.at 3) <| zbr 3 0 (s.at 4) <| jQ .i64 (s.at 6) fun a2 => zbr 7 0 (s.at 7) <| jQ .i64 (s.at 12) fun a3 => jQ .i64 (s.at 13) fun a4 => jQ .i64 (s.at 30) fun a5 => jQ .i64 (s.at 31) fun a6 => Z4 (s.bx 0) fun c17 => zj c17 fun c19 c20 => Z1 1 c19 fun a7 => zR c20 <| Z4 (s.bx 1) fun c21 => zj c21 fun c23 c24 => zhG 4 1 c23 fun a8 => zR c24 <| Z4 (s.bx 2) fun c25 => zj c25 fun c27 c28 => Z1 25 c27 fun a9 => zR c28 <| Z4 (s.bx 3) fun c29 => zj c29 fun c31 c32 => zhG 5 1 c31 fun a10 => zR c32 <| Z4 (s.bx 4) fun a11 => Z4 (s.bx 5) fun a12 => Z4 (s.bx 7) fun c35 => zj c35 fun c37 c38 => Z1 29 c37 fun a13 => zR c38 <| some (a0, a1, a2, a3, a4, a5, a6, a7, a8, a9, a10, a11, a12, a13)
 st := fun u14 => mkS 58 [(11, (AV.list 1 u14.1 none)), (29, (AV.list 25 u14.2.1 none)), (0, (AV.fn (.func 77) [] [])), (2, (AV.ptr 1 0)), (3, (AV.ptr 2 0)), (4, (AV.ptr 3 0)), (6, (qI u14.2.2.1)), (7, (AV.ptr 7 0)), (12, (qI u14.2.2.2.1)), (13, (qI u14.2.2.2.2.1)), (30, (qI u14.2.2.2.2.2.1)), (31, (qI u14.2.2.2.2.2.2.1))] [(0, [(AV.list 1 u14.2.2.2.2.2.2.2.1 none)]), (1, [(AV.vs 4 0 u14.2.2.2.2.2.2.2.2.1 1)]), (2, [(AV.list 25 u14.2.2.2.2.2.2.2.2.2.1 none)]), (3, [(AV.vs 5 0 u14.2.2.2.2.2.2.2.2.2.2.1 1)]), (4, u14.2.2.2.2.2.2.2.2.2.2.2.1), (5, u14.2.2.2.2.2.2.2.2.2.2.2.2.1), (7, [(AV.list 29 u14.2.2.2.2.2.2.2.2.2.2.2.2.2 none)])] (Jk 14).1.toks 6
 out := fun y => (.exit 2, mkS 58 [(11, (AV.list 1 y.1 none)), (0, (AV.fn (.func 77) [] [])), (2, (AV.ptr 1 0)), (3, (AV.ptr 2 0)), (4, (AV.ptr 3 0)), (12, (qI y.2.1)), (13, (qI y.2.2.1))] [(0, [(AV.list 1 y.2.2.2.1 none)]), (1, [(AV.vs 4 0 y.2.2.2.2.1 1)]), (2, [(AV.list 25 y.2.2.2.2.2.1 none)]), (3, [(AV.vs 5 0 y.2.2.2.2.2.2.1 1)]), (4, y.2.2.2.2.2.2.2.1), (5, y.2.2.2.2.2.2.2.2)] (Jk 14).2.toks 6)
 b := fun u14 α kn ke => (match (decide (u14.2.2.2.2.2.2.1 < u14.2.2.2.2.2.1)) with | true => (if 0 <= u14.2.2.2.2.2.2.1 then (match u14.2.1[u14.2.2.2.2.2.2.1.toNat]? with | some c12 => (match zgT c12 with | some e13 => (if 0 <= u14.2.2.2.2.2.2.1 /\ u14.2.2.2.2.2.2.1 < (u14.2.2.2.2.2.2.2.2.2.2.1 : Int) then (match u14.2.2.2.2.2.2.2.2.2.2.2.2.1[((0 + u14.2.2.2.2.2.2.1.toNat) * 1)]? with | some x14 => (match x14 with | .v (.bool b15) => (match (!b15) with | true => (match zoP N u14.2.2.2.2.2.2.2.2.2.2.2.2.2 with | some y16 => (match zyL N ((zw y16), e13) with | some y17 => (match y17 with | true => (if 0 <= u14.2.2.1 /\ u14.2.2.1 < (u14.2.2.2.2.2.2.2.2.1 : Int) then (if ((0 + u14.2.2.1.toNat) * 1) + 1 <= u14.2.2.2.2.2.2.2.2.2.2.2.1.length then (if 0 <= u14.2.2.2.2.2.2.1 /\ u14.2.2.2.2.2.2.1 < (u14.2.2.2.2.2.2.2.2.2.2.1 : Int) then (if ((0 + u14.2.2.2.2.2.2.1.toNat) * 1) + 1 <= u14.2.2.2.2.2.2.2.2.2.2.2.2.1.length then (ke (u14.1, u14.2.2.2.1, u14.2.2.2.2.1, u14.2.2.2.2.2.2.2.1, u14.2.2.2.2.2.2.2.2.1, u14.2.2.2.2.2.2.2.2.2.1, u14.2.2.2.2.2.2.2.2.2.2.1, ((splice u14.2.2.2.2.2.2.2.2.2.2.2.1 ((0 + u14.2.2.1.toNat) * 1) [(AV.v (.int .i64 u14.2.2.2.2.2.2.1))]).map dat0), ((splice u14.2.2.2.2.2.2.2.2.2.2.2.2.1 ((0 + u14.2.2.2.2.2.2.1.toNat) * 1) [(AV.v (.bool true))]).map dat0))) else none) else none) else none) else none) | false => (kn (u14.1, u14.2.1, u14.2.2.1, u14.2.2.2.1, u14.2.2.2.2.1, u14.2.2.2.2.2.1, (i64 (u14.2.2.2.2.2.2.1 + 1)), u14.2.2.2.2.2.2.2.1, u14.2.2.2.2.2.2.2.2.1, u14.2.2.2.2.2.2.2.2.2.1, u14.2.2.2.2.2.2.2.2.2.2.1, (u14.2.2.2.2.2.2.2.2.2.2.2.1.map dat0), (u14.2.2.2.2.2.2.2.2.2.2.2.2.1.map dat0), u14.2.2.2.2.2.2.2.2.2.2.2.2.2))) | none => none) | none => none) | false => (kn (u14.1, u14.2.1, u14.2.2.1, u14.2.2.2.1, u14.2.2.2.2.1, u14.2.2.2.2.2.1, (i64 (u14.2.2.2.2.2.2.1 + 1)), u14.2.2.2.2.2.2.2.1, u14.2.2.2.2.2.2.2.2.1, u14.2.2.2.2.2.2.2.2.2.1, u14.2.2.2.2.2.2.2.2.2.2.1, (u14.2.2.2.2.2.2.2.2.2.2.2.1.map dat0), (u14.2.2.2.2.2.2.2.2.2.2.2.2.1.map dat0), u14.2.2.2.2.2.2.2.2.2.2.2.2.2))) | _ => none) | none => none) else none) | none => none) | none => none) else none) | false => (ke (u14.1, u14.2.2.2.1, u14.2.2.2.2.1, u14.2.2.2.2.2.2.2.1, u14.2.2.2.2.2.2.2.2.1, u14.2.2.2.2.2.2.2.2.2.1, u14.2.2.2.2.2.2.2.2.2.2.1, (u14.2.2.2.2.2.2.2.2.2.2.2.1.map dat0), (u14.2.2.2.2.2.2.2.2.2.2.2.2.1.map dat0))))
abbrev zpi (N : Nat) (x : qL × qL × Int × Int × Int × Int × Int × qL × Nat × qL × Nat × qA × qA × qL) : Option ((qL × Int × Int × qL × Nat × qL × Nat × qA × qA)) := (Za N).L N x
def ZP (N : Nat) : LSpec where
 X := qL × Int × Int × qL × Nat × qL × Nat × qA × qA
 Y := (qL × Nat × qL × Nat × qA × qA)
 p := fun s => ze9 s.env.length 58 <| ze9 s.nin 6 <| Z1 1 (s.at 11) fun a0 => pFn 77 (s.at 0) fun c4 c5 => zR c4 <| zR c5 <| zbr 1 0 (s.at 2) <| zbr 2 0 (s.at 3) <| zbr 3 0 (s.at 4) <| jQ .i64 (s.at 12) fun a1 => jQ .i64 (s.at 13) fun a2 => Z4 (s.bx 0) fun c12 => zj c12 fun c14 c15 => Z1 1 c14 fun a3 => zR c15 <| Z4 (s.bx 1) fun c16 => zj c16 fun c18 c19 => zhG 4 1 c18 fun a4 => zR c19 <| Z4 (s.bx 2) fun c20 => zj c20 fun c22 c23 => Z1 25 c22 fun a5 => zR c23 <| Z4 (s.bx 3) fun c24 => zj c24 fun c26 c27 => zhG 5 1 c26 fun a6 => zR c27 <| Z4 (s.bx 4) fun a7 => Z4 (s.bx 5) fun a8 => some (a0, a1, a2, a3, a4, a5, a6, a7, a8)
 st := fun u2 => mkS 58 [(11, (AV.list 1 u2.1 none)), (0, (AV.fn (.func 77) [] [])), (2, (AV.ptr 1 0)), (3, (AV.ptr 2 0)), (4, (AV.ptr 3 0)), (12, (qI u2.2.1)), (13, (qI u2.2.2.1))] [(0, [(AV.list 1 u2.2.2.2.1 none)]), (1, [(AV.vs 4 0 u2.2.2.2.2.1 1)]), (2, [(AV.list 25 u2.2.2.2.2.2.1 none)]), (3, [(AV.vs 5 0 u2.2.2.2.2.2.2.1 1)]), (4, u2.2.2.2.2.2.2.2.1), (5, u2.2.2.2.2.2.2.2.2)] (Jk 2).1.toks 6
 out := fun y => (.exit 0, mkS 58 [] [(0, [(AV.list 1 y.1 none)]), (1, [(AV.vs 4 0 y.2.1 1)]), (2, [(AV.list 25 y.2.2.1 none)]), (3, [(AV.vs 5 0 y.2.2.2.1 1)]), (4, y.2.2.2.2.1), (5, y.2.2.2.2.2)] (Jk 2).2.toks 6)
 b := fun u2 α kn ke => (match (decide (u2.2.2.1 < u2.2.1)) with | true => (if 0 <= u2.2.2.1 then (match u2.1[u2.2.2.1.toNat]? with | some c19 => (match zgc c19 with | some e20 => (if 0 <= u2.2.2.1 /\ u2.2.2.1 < (u2.2.2.2.2.1 : Int) then (match u2.2.2.2.2.2.2.2.1[((0 + u2.2.2.1.toNat) * 1)]? with | some x21 => (match x21 with | .v (.int q23 n22) => (if q23 = .i64 then (match (decide (n22 >= 0)) with | true => (kn (u2.1, u2.2.1, (i64 (u2.2.2.1 + 1)), u2.2.2.2.1, u2.2.2.2.2.1, u2.2.2.2.2.2.1, u2.2.2.2.2.2.2.1, (u2.2.2.2.2.2.2.2.1.map dat0), (u2.2.2.2.2.2.2.2.2.map dat0))) | false => (match ((e20.1.length : Int) == 0) with | true => (kn (u2.1, u2.2.1, (i64 (u2.2.2.1 + 1)), u2.2.2.2.1, u2.2.2.2.2.1, u2.2.2.2.2.2.1, u2.2.2.2.2.2.2.1, (u2.2.2.2.2.2.2.2.1.map dat0), (u2.2.2.2.2.2.2.2.2.map dat0))) | false => (match zpi N (u2.1, u2.2.2.2.2.2.1, u2.2.2.1, u2.2.1, u2.2.2.1, (u2.2.2.2.2.2.1.length : Int), 0, u2.2.2.2.1, u2.2.2.2.2.1, u2.2.2.2.2.2.1, u2.2.2.2.2.2.2.1, (u2.2.2.2.2.2.2.2.1.map dat0), (u2.2.2.2.2.2.2.2.2.map dat0), e20.1) with | some y24 => (kn (y24.1, y24.2.1, (i64 (y24.2.2.1 + 1)), y24.2.2.2.1, y24.2.2.2.2.1, y24.2.2.2.2.2.1, y24.2.2.2.2.2.2.1, (y24.2.2.2.2.2.2.2.1.map dat0), (y24.2.2.2.2.2.2.2.2.map dat0))) | none => none))) else none) | _ => none) | none => none) else none) | none => none) | none => none) else none) | false => (ke (u2.2.2.2.1, u2.2.2.2.2.1, u2.2.2.2.2.2.1, u2.2.2.2.2.2.2.1, (u2.2.2.2.2.2.2.2.1.map dat0), (u2.2.2.2.2.2.2.2.2.map dat0))))
abbrev zwZ (N : Nat) (x : qL × Int × Int × qL × Nat × qL × Nat × qA × qA) : Option ((qL × Nat × qL × Nat × qA × qA)) := (ZP N).L N x
def zef (N : Nat) : FSpec where
 X := qL × Nat × qL × Nat × qA × qA
 Y := qL × Nat × qL × Nat × qA × qA
 ash := [[none], [none], [none], [none], [none]]
 bsh := [[some 1], [none], [some 25], [none], [], []]
 S := ⟨[], [[some 1], [some 2000001], [some 25], [some 2000001], [], []], [], [], [4, 5]⟩
 pat := fun a b => zj a fun v1 c2 => pFn 77 v1 fun c3 c4 => zR c3 <| zR c4 <| zj c2 fun v5 c6 => zbr 0 0 v5 <| zj c6 fun v7 c8 => zbr 1 0 v7 <| zj c8 fun v9 c10 => zbr 2 0 v9 <| zj c10 fun v11 c12 => zbr 3 0 v11 <| zR c12 <| zj b fun v13 c14 => zj v13 fun c15 c16 => Z1 1 c15 fun a0 => zR c16 <| zj c14 fun v17 c18 => zj v17 fun c19 c20 => zhG 4 1 c19 fun a1 => zR c20 <| zj c18 fun v21 c22 => zj v21 fun c23 c24 => Z1 25 c23 fun a2 => zR c24 <| zj c22 fun v25 c26 => zj v25 fun c27 c28 => zhG 5 1 c27 fun a3 => zR c28 <| zj c26 fun a4 c29 => zj c29 fun a5 c30 => zR c30 <| some (a0, a1, a2, a3, a4, a5)
 args := fun x => [(AV.fn (.func 77) [] []), (AV.ptr 0 0), (AV.ptr 1 0), (AV.ptr 2 0), (AV.ptr 3 0)]
 bs := fun x => [[(AV.list 1 x.1 none)], [(AV.vs 4 0 x.2.1 1)], [(AV.list 25 x.2.2.1 none)], [(AV.vs 5 0 x.2.2.2.1 1)], x.2.2.2.2.1, x.2.2.2.2.2]
 ret := fun y => ⟨(AV.tup []), [[(AV.list 1 y.1 none)], [(AV.vs 4 0 y.2.1 1)], [(AV.list 25 y.2.2.1 none)], [(AV.vs 5 0 y.2.2.2.1 1)], y.2.2.2.2.1, y.2.2.2.2.2], none, [], [], [4, 5], none⟩
 t := fun x α k => (match zwZ N (x.1, (x.1.length : Int), 0, x.1, x.2.1, x.2.2.1, x.2.2.2.1, (x.2.2.2.2.1.map dat0), (x.2.2.2.2.2.map dat0)) with | some y25 => (k (y25.1, y25.2.1, y25.2.2.1, y25.2.2.2.1, (y25.2.2.2.2.1.map dat0), (y25.2.2.2.2.2.map dat0))) | none => none)
abbrev zyI (N : Nat) (x : qL × Nat × qL × Nat × qA × qA) : Option (qL × Nat × qL × Nat × qA × qA) := (zef N).d x
def zbY (N : Nat) : List (Nat × LSpec) := [(2, ZP N), (14, Za N)]
def zfz : Code := Tryz.f76.body.getD .skip
theorem zpk (N : Nat) : Par (Za N).b := by
 intro x α β kn ke kn' ke' r r' h h1 h2
 revert h
 dsimp only [Za]
 (repeat' (first | (with_reducible refine ze ?_ ?_) | split)) <;> intro h <;> first | exact h1 _ h | exact h2 _ h | cases h
theorem zlj (N : Nat) : je (zn qP) (zyJ N) Jk N (zbY N) 14 zfz (Za N) := fun x α kn ke => by kernel_rfl
theorem zpl (N : Nat) (s : AS) (x : (Za N).X) (hc : s = ZM (Jk 14).1 s) (h : (Za N).p s = some x) : s = (Za N).st x := by
 replace h : ze9 _ _ _ = some x := h
 obtain ⟨h1, g0⟩ := jC h
 obtain ⟨h2, g1⟩ := jC g0; clear g0
 obtain ⟨a0, h3, g2⟩ := zq g1; clear g1
 obtain ⟨a1, h4, g3⟩ := zq g2; clear g2
 obtain ⟨c5, c6, h7, g4⟩ := zaL g3; clear g3
 obtain ⟨rfl, g5⟩ := zg g4; clear g4
 obtain ⟨rfl, g6⟩ := zg g5; clear g5
 obtain ⟨h8, g7⟩ := Zb g6; clear g6
 obtain ⟨h9, g8⟩ := Zb g7; clear g7
 obtain ⟨h10, g9⟩ := Zb g8; clear g8
 obtain ⟨a2, h11, g10⟩ := zA g9; clear g9
 obtain ⟨h12, g11⟩ := Zb g10; clear g10
 obtain ⟨a3, h13, g12⟩ := zA g11; clear g11
 obtain ⟨a4, h14, g13⟩ := zA g12; clear g12
 obtain ⟨a5, h15, g14⟩ := zA g13; clear g13
 obtain ⟨a6, h16, g15⟩ := zA g14; clear g14
 obtain ⟨c17, h18, g16⟩ := zP g15; clear g15
 obtain ⟨c19, c20, rfl, g17⟩ := zb g16; clear g16
 obtain ⟨a7, rfl, g18⟩ := zq g17; clear g17
 obtain ⟨rfl, g19⟩ := zg g18; clear g18
 obtain ⟨c21, h22, g20⟩ := zP g19; clear g19
 obtain ⟨c23, c24, rfl, g21⟩ := zb g20; clear g20
 obtain ⟨a8, rfl, g22⟩ := jk g21; clear g21
 obtain ⟨rfl, g23⟩ := zg g22; clear g22
 obtain ⟨c25, h26, g24⟩ := zP g23; clear g23
 obtain ⟨c27, c28, rfl, g25⟩ := zb g24; clear g24
 obtain ⟨a9, rfl, g26⟩ := zq g25; clear g25
 obtain ⟨rfl, g27⟩ := zg g26; clear g26
 obtain ⟨c29, h30, g28⟩ := zP g27; clear g27
 obtain ⟨c31, c32, rfl, g29⟩ := zb g28; clear g28
 obtain ⟨a10, rfl, g30⟩ := jk g29; clear g29
 obtain ⟨rfl, g31⟩ := zg g30; clear g30
 obtain ⟨a11, h33, g32⟩ := zP g31; clear g31
 obtain ⟨a12, h34, g33⟩ := zP g32; clear g32
 obtain ⟨c35, h36, g34⟩ := zP g33; clear g33
 obtain ⟨c37, c38, rfl, g35⟩ := zb g34; clear g34
 obtain ⟨a13, rfl, g36⟩ := zq g35; clear g35
 obtain ⟨rfl, g37⟩ := zg g36; clear g36
 clear h
 cases g37
 exact JP hc h1 h2 rfl rfl rfl rfl ⟨h3, h4, h7, h8, h9, h10, h11, h12, h13, h14, h15, h16, trivial⟩ ⟨h18, h22, h26, h30, h33, h34, h36, trivial⟩
theorem zeM (N : Nat) : ZE qP Jk N (zbY N) 14 (zc 14 zfz) :=
 zC (zd qP) (zi _) zl Jk N (zbY N) 14 zfz (l := []) (by kernel_rfl) (by kernel_rfl) an (Za N) rfl (zpl N) (fun _ => rfl) (zlj N) (zpk N)
theorem ztD (N : Nat) : Par (ZP N).b := by
 intro x α β kn ke kn' ke' r r' h h1 h2
 revert h
 dsimp only [ZP]
 (repeat' (first | (with_reducible refine ze ?_ ?_) | split)) <;> intro h <;> first | exact h1 _ h | exact h2 _ h | cases h
theorem zph (N : Nat) : je (zn qP) (zyJ N) Jk N (zbY N) 2 zfz (ZP N) := fun x α kn ke => by kernel_rfl
theorem ztF (N : Nat) (s : AS) (x : (ZP N).X) (hc : s = ZM (Jk 2).1 s) (h : (ZP N).p s = some x) : s = (ZP N).st x := by
 replace h : ze9 _ _ _ = some x := h
 obtain ⟨h1, g0⟩ := jC h
 obtain ⟨h2, g1⟩ := jC g0; clear g0
 obtain ⟨a0, h3, g2⟩ := zq g1; clear g1
 obtain ⟨c4, c5, h6, g3⟩ := zaL g2; clear g2
 obtain ⟨rfl, g4⟩ := zg g3; clear g3
 obtain ⟨rfl, g5⟩ := zg g4; clear g4
 obtain ⟨h7, g6⟩ := Zb g5; clear g5
 obtain ⟨h8, g7⟩ := Zb g6; clear g6
 obtain ⟨h9, g8⟩ := Zb g7; clear g7
 obtain ⟨a1, h10, g9⟩ := zA g8; clear g8
 obtain ⟨a2, h11, g10⟩ := zA g9; clear g9
 obtain ⟨c12, h13, g11⟩ := zP g10; clear g10
 obtain ⟨c14, c15, rfl, g12⟩ := zb g11; clear g11
 obtain ⟨a3, rfl, g13⟩ := zq g12; clear g12
 obtain ⟨rfl, g14⟩ := zg g13; clear g13
 obtain ⟨c16, h17, g15⟩ := zP g14; clear g14
 obtain ⟨c18, c19, rfl, g16⟩ := zb g15; clear g15
 obtain ⟨a4, rfl, g17⟩ := jk g16; clear g16
 obtain ⟨rfl, g18⟩ := zg g17; clear g17
 obtain ⟨c20, h21, g19⟩ := zP g18; clear g18
 obtain ⟨c22, c23, rfl, g20⟩ := zb g19; clear g19
 obtain ⟨a5, rfl, g21⟩ := zq g20; clear g20
 obtain ⟨rfl, g22⟩ := zg g21; clear g21
 obtain ⟨c24, h25, g23⟩ := zP g22; clear g22
 obtain ⟨c26, c27, rfl, g24⟩ := zb g23; clear g23
 obtain ⟨a6, rfl, g25⟩ := jk g24; clear g24
 obtain ⟨rfl, g26⟩ := zg g25; clear g25
 obtain ⟨a7, h28, g27⟩ := zP g26; clear g26
 obtain ⟨a8, h29, g28⟩ := zP g27; clear g27
 clear h
 cases g28
 exact JP hc h1 h2 rfl rfl rfl rfl ⟨h3, h6, h7, h8, h9, h10, h11, trivial⟩ ⟨h13, h17, h21, h25, h28, h29, trivial⟩
theorem zpj (N : Nat) : ZE qP Jk N (zbY N) 2 (zc 2 zfz) :=
 zC (zd qP) (zi _) zl Jk N (zbY N) 2 zfz (l := [(14, zc 14 zfz)]) (by kernel_rfl) (by kernel_rfl) (al (zeM N) an) (ZP N) rfl (ztF N) (fun _ => rfl) (zph N) (ztD N)
theorem ztE (N : Nat) : Zc (zef N).t := by
 intro x α β k k' r r' h h1
 revert h
 dsimp only [zef]
 (repeat' (first | (with_reducible refine ze ?_ ?_) | split)) <;> intro h <;> first | exact h1 _ h | cases h
theorem ztG (N : Nat) : Ze (zn qP) (zyJ N) Jk (lam N (zbY N)) Tryz.f76 (zef N) := fun x => by kernel_rfl
theorem zyK (N : Nat) (a : List AV) (b : qL) (x : (zef N).X) (h : (zef N).pat a b = some x) : a = (zef N).args x /\ b = (zef N).bs x := by
 obtain ⟨v1, c2, rfl, g0⟩ := zb (show zj _ _ = some x from h)
 obtain ⟨c3, c4, rfl, g1⟩ := zaL g0; clear g0
 obtain ⟨rfl, g2⟩ := zg g1; clear g1
 obtain ⟨rfl, g3⟩ := zg g2; clear g2
 obtain ⟨v5, c6, rfl, g4⟩ := zb g3; clear g3
 obtain ⟨rfl, g5⟩ := Zb g4; clear g4
 obtain ⟨v7, c8, rfl, g6⟩ := zb g5; clear g5
 obtain ⟨rfl, g7⟩ := Zb g6; clear g6
 obtain ⟨v9, c10, rfl, g8⟩ := zb g7; clear g7
 obtain ⟨rfl, g9⟩ := Zb g8; clear g8
 obtain ⟨v11, c12, rfl, g10⟩ := zb g9; clear g9
 obtain ⟨rfl, g11⟩ := Zb g10; clear g10
 obtain ⟨rfl, g12⟩ := zg g11; clear g11
 obtain ⟨v13, c14, rfl, g13⟩ := zb g12; clear g12
 obtain ⟨c15, c16, rfl, g14⟩ := zb g13; clear g13
 obtain ⟨a0, rfl, g15⟩ := zq g14; clear g14
 obtain ⟨rfl, g16⟩ := zg g15; clear g15
 obtain ⟨v17, c18, rfl, g17⟩ := zb g16; clear g16
 obtain ⟨c19, c20, rfl, g18⟩ := zb g17; clear g17
 obtain ⟨a1, rfl, g19⟩ := jk g18; clear g18
 obtain ⟨rfl, g20⟩ := zg g19; clear g19
 obtain ⟨v21, c22, rfl, g21⟩ := zb g20; clear g20
 obtain ⟨c23, c24, rfl, g22⟩ := zb g21; clear g21
 obtain ⟨a2, rfl, g23⟩ := zq g22; clear g22
 obtain ⟨rfl, g24⟩ := zg g23; clear g23
 obtain ⟨v25, c26, rfl, g25⟩ := zb g24; clear g24
 obtain ⟨c27, c28, rfl, g26⟩ := zb g25; clear g25
 obtain ⟨a3, rfl, g27⟩ := jk g26; clear g26
 obtain ⟨rfl, g28⟩ := zg g27; clear g27
 obtain ⟨a4, c29, rfl, g29⟩ := zb g28; clear g28
 obtain ⟨a5, c30, rfl, g30⟩ := zb g29; clear g29
 obtain ⟨rfl, g31⟩ := zg g30; clear g30
 clear h
 cases g31
 exact ⟨rfl, rfl⟩
def zDZ (N : Nat) : Ent qP := zx (zd qP) (zi _) zl 76 Tryz.f76 Tryz.func76 rfl Jk (lam N (zbY N)) (zm (l := [(2, zc 2 zfz), (14, zc 14 zfz)]) (al (zpj N) (al (zeM N) an)) (by kernel_rfl)) (zef N) (fun _ => ⟨rfl, rfl⟩) (ztG N) (zyK N) (ztE N)
def J7 : Nat -> Keep × Keep := anL [(4, ⟨[3, 7, 8], [], [3], [(0, 9)], [], [], [], [], false, none, []⟩, qK [4] [] [])]
def zv8 (N : Nat) : GamK := gam (P := qP) []
def Zy (N : Nat) : LSpec where
 X := qL × Int × Int × RT1
 Y := (Int) ⊕ (Unit)
 p := fun s => rdS 19 0 [(0, .lst 9), (3, .ptr 3 0), (7, .int .i64), (8, .int .i64)] [(3, .row RK1)] s fun ⟨a0, _, a1, a2, _⟩ ⟨a3, _⟩ => (a0, a1, a2, a3)
 st := fun u4 => mkS 19 [(0, (AV.list 9 u4.1 none)), (3, (AV.ptr 3 0)), (7, (qI u4.2.1)), (8, (qI u4.2.2.1))] [(3, (zy u4.2.2.2))] (J7 4).1.toks 0
 out := fun y => match y with
  | .inl y => (.ret, mkS 19 [(4, (qI y))] [] (J7 4).2.toks 0)
  | .inr y => (.exit 0, mkS 19 [] [] (J7 4).2.toks 0)
 b := fun u4 α kn ke => (match (decide (u4.2.2.1 < u4.2.1)) with | true => (if 0 <= u4.2.2.1 then (match u4.1[u4.2.2.1.toNat]? with | some c1 => (match Jv c1 with | some e2 => (match (((u4.2.2.2.1 == e2.1) && ((u4.2.2.2.2.1 == e2.2.1) && ((u4.2.2.2.2.2.1 == e2.2.2.1) && ((u4.2.2.2.2.2.2.1 == e2.2.2.2.1) && true)))) && ((u4.2.2.2.2.2.2.2.1 == e2.2.2.2.2.1) && ((u4.2.2.2.2.2.2.2.2.1 == e2.2.2.2.2.2.1) && ((u4.2.2.2.2.2.2.2.2.2.1 == e2.2.2.2.2.2.2.1) && ((u4.2.2.2.2.2.2.2.2.2.2.1 == e2.2.2.2.2.2.2.2.1) && ((u4.2.2.2.2.2.2.2.2.2.2.2.1 == e2.2.2.2.2.2.2.2.2.1) && true)))))) with | true => (ke (.inl u4.2.2.1)) | false => (kn (u4.1, u4.2.1, (i64 (u4.2.2.1 + 1)), u4.2.2.2))) | none => none) | none => none) else none) | false => (ke (.inr ())))
abbrev zmU (N : Nat) (x : qL × Int × Int × RT1) : Option ((Int) ⊕ (Unit)) := (Zy N).L N x
def zew (N : Nat) : FSpec where
 X := qL × RT1
 Y := Int
 ash := [[some 9], [none, none, none, none, none, none, none, none, none]]
 S := ⟨[[none]], [], [], [], []⟩
 pat := fun a b => rdA [.lst 9, .agg RK1] [] a b fun ⟨a0, a1, _⟩ _ => (a0, a1)
 args := fun x => [(AV.list 9 x.1 none), (AV.agg (zy x.2))]
 ret := fun y => ⟨(AV.v (.int .i64 y)), [], none, [], [], [], none⟩
 t := fun x α k => (match zmU N (x.1, (x.1.length : Int), 0, x.2) with | some y3 => (match y3 with | .inl z4 => (k z4) | .inr z5 => (k (-1))) | none => none)
abbrev zv7 (N : Nat) (x : qL × RT1) : Option (Int) := (zew N).d x
def zcU (N : Nat) : List (Nat × LSpec) := [(4, Zy N)]
def ziV : Code := Tryz.f110.body.getD .skip
theorem zmV (N : Nat) : Par (Zy N).b := by
 intro x α β kn ke kn' ke' r r' h h1 h2
 revert h
 dsimp only [Zy]
 (repeat' (first | (with_reducible refine ze ?_ ?_) | split)) <;> intro h <;> first | exact h1 _ h | exact h2 _ h | cases h
theorem zki (N : Nat) : je (zn qP) (zv8 N) J7 N (zcU N) 4 ziV (Zy N) := fun x α kn ke => by kernel_rfl
theorem zkj (N : Nat) : ZE qP J7 N (zcU N) 4 (zc 4 ziV) :=
 zC (zd qP) (zi _) zl J7 N (zcU N) 4 ziV (l := []) (by kernel_rfl) (by kernel_rfl) an (Zy N) rfl (fun s x hc h => by dsimp only [Zy] at h; exact zI hc h (fun _ _ => rfl) rfl rfl rfl) (fun _ => rfl) (zki N) (zmV N)
theorem zmW (N : Nat) : Zc (zew N).t := by
 intro x α β k k' r r' h h1
 revert h
 dsimp only [zew]
 (repeat' (first | (with_reducible refine ze ?_ ?_) | split)) <;> intro h <;> first | exact h1 _ h | cases h
theorem zmX (N : Nat) : Ze (zn qP) (zv8 N) J7 (lam N (zcU N)) Tryz.f110 (zew N) := fun x => by kernel_rfl
def zAx (N : Nat) : Ent qP := zx (zd qP) (zi _) zl 110 Tryz.f110 Tryz.func110 rfl J7 (lam N (zcU N)) (zm (l := [(4, zc 4 ziV)]) (al (zkj N) an) (by kernel_rfl)) (zew N) (fun _ => ⟨rfl, rfl⟩) (zmX N) (fun _ _ _ h => zu h (fun _ _ => rfl) (fun _ _ => rfl)) (zmW N)
def zxg : Nat -> Keep × Keep := anL []
def zEt (N : Nat) : GamK := gam (P := qP) [zAx N]
def zlC (N : Nat) : FSpec where
 X := qL × RT1
 Y := Bool
 ash := [[some 9], [none, none, none, none, none, none, none, none, none]]
 S := ⟨[[none]], [], [], [], []⟩
 pat := fun a b => rdA [.lst 9, .agg RK1] [] a b fun ⟨a0, a1, _⟩ _ => (a0, a1)
 args := fun x => [(AV.list 9 x.1 none), (AV.agg (zy x.2))]
 ret := fun y => ⟨(AV.v (.bool y)), [], none, [], [], [], none⟩
 t := fun x α k => (match zv7 N x with | some y1 => (k (decide (y1 >= 0))) | none => none)
abbrev zyU (N : Nat) (x : qL × RT1) : Option (Bool) := (zlC N).d x
theorem zuD (N : Nat) : Zc (zlC N).t := by
 intro x α β k k' r r' h h1
 revert h
 dsimp only [zlC]
 (repeat' (first | (with_reducible refine ze ?_ ?_) | split)) <;> intro h <;> first | exact h1 _ h | cases h
theorem zuE (N : Nat) : Ze (zn qP) (zEt N) zxg (lam N []) Tryz.f98 (zlC N) := fun x => by kernel_rfl
def zEs (N : Nat) : Ent qP := zx (zd qP) (zi _) zl 98 Tryz.f98 Tryz.func98 rfl zxg (lam N []) (zm (l := []) an (by kernel_rfl)) (zlC N) (fun _ => ⟨rfl, rfl⟩) (zuE N) (fun _ _ _ h => zu h (fun _ _ => rfl) (fun _ _ => rfl)) (zuD N)
def zxf : Nat -> Keep × Keep := anL []
def zEr (N : Nat) : GamK := gam (P := qP) [zEs N]
def zlB (N : Nat) : FSpec where
 X := RT1 × RT0
 Y := Bool × RT0
 ash := [[none, none, none, none, none, none, none, none, none], [none]]
 bsh := [[none, none, none, none, none, none, none, none, none, some 9, none, none, none, none, none, none, none, none, none, none, none, none, none, none, none]]
 S := ⟨[[none]], [[]], [], [], []⟩
 pat := fun a b => rdA [.agg RK1, .ptr 0 0] [.row RK0] a b fun ⟨a0, _, _⟩ ⟨a1, _⟩ => (a0, a1)
 args := fun x => [(AV.agg (zy x.1)), (AV.ptr 0 0)]
 bs := fun x => [(zB x.2)]
 ret := fun y => ⟨(AV.v (.bool y.1)), [(zB y.2)], none, [], [], [], none⟩
 t := fun x α k => (match zyU N (x.2.2.2.2.2.2.2.2.2.2.1, x.1) with | some y1 => (k (y1, x.2)) | none => none)
abbrev zyT (N : Nat) (x : RT1 × RT0) : Option (Bool × RT0) := (zlB N).d x
theorem zuB (N : Nat) : Zc (zlB N).t := by
 intro x α β k k' r r' h h1
 revert h
 dsimp only [zlB]
 (repeat' (first | (with_reducible refine ze ?_ ?_) | split)) <;> intro h <;> first | exact h1 _ h | cases h
theorem zuC (N : Nat) : Ze (zn qP) (zEr N) zxf (lam N []) Tryz.f97 (zlB N) := fun x => by kernel_rfl
def zEq (N : Nat) : Ent qP := zx (zd qP) (zi _) zl 97 Tryz.f97 Tryz.func97 rfl zxf (lam N []) (zm (l := []) an (by kernel_rfl)) (zlB N) (fun _ => ⟨rfl, rfl⟩) (zuC N) (fun _ _ _ h => zu h (fun _ _ => rfl) (fun _ _ => rfl)) (zuB N)
def J6 : Nat -> Keep × Keep := anL [(4, ⟨[1, 7, 8], [], [0], [(0, 9)], [], [], [], [], false, none, []⟩, qK [4] [] [0])]
def zv2 (N : Nat) : GamK := gam (P := qP) [zEq N]
def Zx (N : Nat) : LSpec where
 X := qL × Int × Int × RT0
 Y := (Int × RT0) ⊕ (RT0)
 p := fun s => rdS 19 1 [(0, .lst 9), (1, .fn1 97 0), (7, .int .i64), (8, .int .i64)] [(0, .row RK0)] s fun ⟨a0, _, a1, a2, _⟩ ⟨a3, _⟩ => (a0, a1, a2, a3)
 st := fun u4 => mkS 19 [(0, (AV.list 9 u4.1 none)), (1, (AV.fn (.func 97) [] [(AV.ptr 0 0)])), (7, (qI u4.2.1)), (8, (qI u4.2.2.1))] [(0, (zB u4.2.2.2))] (J6 4).1.toks 1
 out := fun y => match y with
  | .inl y => (.ret, mkS 19 [(4, (qI y.1))] [(0, (zB y.2))] (J6 4).2.toks 1)
  | .inr y => (.exit 0, mkS 19 [] [(0, (zB y))] (J6 4).2.toks 1)
 b := fun u4 α kn ke => (match (decide (u4.2.2.1 < u4.2.1)) with | true => (if 0 <= u4.2.2.1 then (match u4.1[u4.2.2.1.toNat]? with | some c4 => (match Jv c4 with | some e5 => (match zyT N (e5, u4.2.2.2) with | some y6 => (match y6.1 with | true => (ke (.inl (u4.2.2.1, y6.2))) | false => (kn (u4.1, u4.2.1, (i64 (u4.2.2.1 + 1)), y6.2))) | none => none) | none => none) | none => none) else none) | false => (ke (.inr u4.2.2.2)))
abbrev zmN (N : Nat) (x : qL × Int × Int × RT0) : Option ((Int × RT0) ⊕ (RT0)) := (Zx N).L N x
def zev (N : Nat) : FSpec where
 X := qL × RT0
 Y := Int × RT0
 ash := [[some 9], [none]]
 bsh := [[none, none, none, none, none, none, none, none, none, some 9, none, none, none, none, none, none, none, none, none, none, none, none, none, none, none]]
 S := ⟨[[none]], [[]], [], [], []⟩
 pat := fun a b => rdA [.lst 9, .fn1 97 0] [.row RK0] a b fun ⟨a0, _, _⟩ ⟨a1, _⟩ => (a0, a1)
 args := fun x => [(AV.list 9 x.1 none), (AV.fn (.func 97) [] [(AV.ptr 0 0)])]
 bs := fun x => [(zB x.2)]
 ret := fun y => ⟨(AV.v (.int .i64 y.1)), [(zB y.2)], none, [], [], [], none⟩
 t := fun x α k => (match zmN N (x.1, (x.1.length : Int), 0, x.2) with | some y7 => (match y7 with | .inl z8 => (k z8) | .inr z9 => (k ((-1), z9))) | none => none)
abbrev zv1 (N : Nat) (x : qL × RT0) : Option (Int × RT0) := (zev N).d x
def zcS (N : Nat) : List (Nat × LSpec) := [(4, Zx N)]
def ziT : Code := Tryz.f109.body.getD .skip
theorem zmO (N : Nat) : Par (Zx N).b := by
 intro x α β kn ke kn' ke' r r' h h1 h2
 revert h
 dsimp only [Zx]
 (repeat' (first | (with_reducible refine ze ?_ ?_) | split)) <;> intro h <;> first | exact h1 _ h | exact h2 _ h | cases h
theorem zke (N : Nat) : je (zn qP) (zv2 N) J6 N (zcS N) 4 ziT (Zx N) := fun x α kn ke => by kernel_rfl
theorem zkf (N : Nat) : ZE qP J6 N (zcS N) 4 (zc 4 ziT) :=
 zC (zd qP) (zi _) zl J6 N (zcS N) 4 ziT (l := []) (by kernel_rfl) (by kernel_rfl) an (Zx N) rfl (fun s x hc h => by dsimp only [Zx] at h; exact zI hc h (fun _ _ => rfl) rfl rfl rfl) (fun _ => rfl) (zke N) (zmO N)
theorem zmP (N : Nat) : Zc (zev N).t := by
 intro x α β k k' r r' h h1
 revert h
 dsimp only [zev]
 (repeat' (first | (with_reducible refine ze ?_ ?_) | split)) <;> intro h <;> first | exact h1 _ h | cases h
theorem zmQ (N : Nat) : Ze (zn qP) (zv2 N) J6 (lam N (zcS N)) Tryz.f109 (zev N) := fun x => by kernel_rfl
def zAu (N : Nat) : Ent qP := zx (zd qP) (zi _) zl 109 Tryz.f109 Tryz.func109 rfl J6 (lam N (zcS N)) (zm (l := [(4, zc 4 ziT)]) (al (zkf N) an) (by kernel_rfl)) (zev N) (fun _ => ⟨rfl, rfl⟩) (zmQ N) (fun _ _ _ h => zu h (fun _ _ => rfl) (fun _ _ => rfl)) (zmP N)
def zxe : Nat -> Keep × Keep := anL []
def zEp (N : Nat) : GamK := gam (P := qP) [zAu N]
def zlA (N : Nat) : FSpec where
 X := qL × RT0
 Y := Bool × RT0
 ash := [[some 9], [none]]
 bsh := [[none, none, none, none, none, none, none, none, none, some 9, none, none, none, none, none, none, none, none, none, none, none, none, none, none, none]]
 S := ⟨[[none]], [[none, none, none, none, none, none, none, none, none, some 9, none, none, none, none, none, none, none, none, none, none, none, none, none, none, none]], [], [], []⟩
 pat := fun a b => rdA [.lst 9, .fn1 97 0] [.row RK0] a b fun ⟨a0, _, _⟩ ⟨a1, _⟩ => (a0, a1)
 args := fun x => [(AV.list 9 x.1 none), (AV.fn (.func 97) [] [(AV.ptr 0 0)])]
 bs := fun x => [(zB x.2)]
 ret := fun y => ⟨(AV.v (.bool y.1)), [(zB y.2)], none, [], [], [], none⟩
 t := fun x α k => (match zv1 N x with | some y1 => (k ((decide (y1.1 >= 0)), y1.2)) | none => none)
abbrev zBV (N : Nat) (x : qL × RT0) : Option (Bool × RT0) := (zlA N).d x
theorem zuz (N : Nat) : Zc (zlA N).t := by
 intro x α β k k' r r' h h1
 revert h
 dsimp only [zlA]
 (repeat' (first | (with_reducible refine ze ?_ ?_) | split)) <;> intro h <;> first | exact h1 _ h | cases h
theorem zuA (N : Nat) : Ze (zn qP) (zEp N) zxe (lam N []) Tryz.f96 (zlA N) := fun x => by kernel_rfl
def zEo (N : Nat) : Ent qP := zx (zd qP) (zi _) zl 96 Tryz.f96 Tryz.func96 rfl zxe (lam N []) (zm (l := []) an (by kernel_rfl)) (zlA N) (fun _ => ⟨rfl, rfl⟩) (zuA N) (fun _ _ _ h => zu h (fun _ _ => rfl) (fun _ _ => rfl)) (zuz N)
def zw1 : Nat -> Keep × Keep := anL []
def zD3 (N : Nat) : GamK := gam (P := qP) [zEo N]
def zlo (N : Nat) : FSpec where
 X := RT0 × RT0
 Y := Bool
 ash := [[none, none, none, none, none, none, none, none, none, some 9, none, none, none, none, none, none, none, none, none, none, none, none, none, none, none], [none, none, none, none, none, none, none, none, none, some 9, none, none, none, none, none, none, none, none, none, none, none, none, none, none, none]]
 S := ⟨[[none]], [], [], [], []⟩
 pat := fun a b => rdA [.agg RK0, .agg RK0] [] a b fun ⟨a0, a1, _⟩ _ => (a0, a1)
 args := fun x => [(AV.agg (zB x.1)), (AV.agg (zB x.2))]
 ret := fun y => ⟨(AV.v (.bool y)), [], none, [], [], [], none⟩
 t := fun x α k => (match zBV N (x.1.2.2.2.2.2.2.2.2.2.1, x.2) with | some y1 => (k y1.1) | none => none)
abbrev zpu (N : Nat) (x : RT0 × RT0) : Option (Bool) := (zlo N).d x
theorem ztK (N : Nat) : Zc (zlo N).t := by
 intro x α β k k' r r' h h1
 revert h
 dsimp only [zlo]
 (repeat' (first | (with_reducible refine ze ?_ ?_) | split)) <;> intro h <;> first | exact h1 _ h | cases h
theorem ztL (N : Nat) : Ze (zn qP) (zD3 N) zw1 (lam N []) Tryz.f78 (zlo N) := fun x => by kernel_rfl
def zD2 (N : Nat) : Ent qP := zx (zd qP) (zi _) zl 78 Tryz.f78 Tryz.func78 rfl zw1 (lam N []) (zm (l := []) an (by kernel_rfl)) (zlo N) (fun _ => ⟨rfl, rfl⟩) (ztL N) (fun _ _ _ h => zu h (fun _ _ => rfl) (fun _ _ => rfl)) (ztK N)
def Z7 : Nat -> Keep × Keep := anL [(2, ⟨[0, 2, 3, 4, 12, 13], [], [0, 1, 2, 3, 4, 5], [(11, 1)], [], [], [], [4, 5], false, none, []⟩, ⟨[], [], [0, 1, 2, 3, 4, 5], [], [], [], [], [4, 5], false, none, []⟩), (14, ⟨[0, 2, 3, 4, 6, 7, 12, 13, 30, 31], [], [0, 1, 2, 3, 4, 5, 7], [(11, 1), (29, 25)], [], [], [], [4, 5], false, none, []⟩, ⟨[0, 2, 3, 4, 12, 13], [], [0, 1, 2, 3, 4, 5], [(11, 1)], [], [], [], [4, 5], false, none, []⟩)]
def zpo (N : Nat) : GamK := gam (P := qP) [zsP N, zD2 N]
def zT (N : Nat) : LSpec where
 X := qL × qL × Int × Int × Int × Int × Int × qL × Nat × qL × Nat × qA × qA × qL
 Y := (qL × Int × Int × qL × Nat × qL × Nat × qA × qA)
 p := fun s => ze9 s.env.length 58 <| ze9 s.nin 6 <| Z1 1 (s.at 11) fun a0 => Z1 25 (s.at 29) fun a1 => pFn 78 (s.at 0) fun c5 c6 => zR c5 <| zR c6 <| zbr 1 0 (s.at 2) <| zbr 2 0 (s.at 3) <| zbr 3 0 (s.at 4) <| jQ .i64 (s.at 6) fun a2 => zbr 7 0 (s.at 7) <| jQ .i64 (s.at 12) fun a3 => jQ .i64 (s.at 13) fun a4 => jQ .i64 (s.at 30) fun a5 => jQ .i64 (s.at 31) fun a6 => Z4 (s.bx 0) fun c17 => zj c17 fun c19 c20 => Z1 1 c19 fun a7 => zR c20 <| Z4 (s.bx 1) fun c21 => zj c21 fun c23 c24 => zhG 4 1 c23 fun a8 => zR c24 <| Z4 (s.bx 2) fun c25 => zj c25 fun c27 c28 => Z1 25 c27 fun a9 => zR c28 <| Z4 (s.bx 3) fun c29 => zj c29 fun c31 c32 => zhG 5 1 c31 fun a10 => zR c32 <| Z4 (s.bx 4) fun a11 => Z4 (s.bx 5) fun a12 => Z4 (s.bx 7) fun c35 => zj c35 fun c37 c38 => Z1 29 c37 fun a13 => zR c38 <| some (a0, a1, a2, a3, a4, a5, a6, a7, a8, a9, a10, a11, a12, a13)
 st := fun u14 => mkS 58 [(11, (AV.list 1 u14.1 none)), (29, (AV.list 25 u14.2.1 none)), (0, (AV.fn (.func 78) [] [])), (2, (AV.ptr 1 0)), (3, (AV.ptr 2 0)), (4, (AV.ptr 3 0)), (6, (qI u14.2.2.1)), (7, (AV.ptr 7 0)), (12, (qI u14.2.2.2.1)), (13, (qI u14.2.2.2.2.1)), (30, (qI u14.2.2.2.2.2.1)), (31, (qI u14.2.2.2.2.2.2.1))] [(0, [(AV.list 1 u14.2.2.2.2.2.2.2.1 none)]), (1, [(AV.vs 4 0 u14.2.2.2.2.2.2.2.2.1 1)]), (2, [(AV.list 25 u14.2.2.2.2.2.2.2.2.2.1 none)]), (3, [(AV.vs 5 0 u14.2.2.2.2.2.2.2.2.2.2.1 1)]), (4, u14.2.2.2.2.2.2.2.2.2.2.2.1), (5, u14.2.2.2.2.2.2.2.2.2.2.2.2.1), (7, [(AV.list 29 u14.2.2.2.2.2.2.2.2.2.2.2.2.2 none)])] (Z7 14).1.toks 6
 out := fun y => (.exit 2, mkS 58 [(11, (AV.list 1 y.1 none)), (0, (AV.fn (.func 78) [] [])), (2, (AV.ptr 1 0)), (3, (AV.ptr 2 0)), (4, (AV.ptr 3 0)), (12, (qI y.2.1)), (13, (qI y.2.2.1))] [(0, [(AV.list 1 y.2.2.2.1 none)]), (1, [(AV.vs 4 0 y.2.2.2.2.1 1)]), (2, [(AV.list 25 y.2.2.2.2.2.1 none)]), (3, [(AV.vs 5 0 y.2.2.2.2.2.2.1 1)]), (4, y.2.2.2.2.2.2.2.1), (5, y.2.2.2.2.2.2.2.2)] (Z7 14).2.toks 6)
 b := fun u14 α kn ke => (match (decide (u14.2.2.2.2.2.2.1 < u14.2.2.2.2.2.1)) with | true => (if 0 <= u14.2.2.2.2.2.2.1 then (match u14.2.1[u14.2.2.2.2.2.2.1.toNat]? with | some c12 => (match zgT c12 with | some e13 => (if 0 <= u14.2.2.2.2.2.2.1 /\ u14.2.2.2.2.2.2.1 < (u14.2.2.2.2.2.2.2.2.2.2.1 : Int) then (match u14.2.2.2.2.2.2.2.2.2.2.2.2.1[((0 + u14.2.2.2.2.2.2.1.toNat) * 1)]? with | some x14 => (match x14 with | .v (.bool b15) => (match (!b15) with | true => (match zoP N u14.2.2.2.2.2.2.2.2.2.2.2.2.2 with | some y16 => (match zpu N ((zw y16), e13) with | some y17 => (match y17 with | true => (if 0 <= u14.2.2.1 /\ u14.2.2.1 < (u14.2.2.2.2.2.2.2.2.1 : Int) then (if ((0 + u14.2.2.1.toNat) * 1) + 1 <= u14.2.2.2.2.2.2.2.2.2.2.2.1.length then (if 0 <= u14.2.2.2.2.2.2.1 /\ u14.2.2.2.2.2.2.1 < (u14.2.2.2.2.2.2.2.2.2.2.1 : Int) then (if ((0 + u14.2.2.2.2.2.2.1.toNat) * 1) + 1 <= u14.2.2.2.2.2.2.2.2.2.2.2.2.1.length then (ke (u14.1, u14.2.2.2.1, u14.2.2.2.2.1, u14.2.2.2.2.2.2.2.1, u14.2.2.2.2.2.2.2.2.1, u14.2.2.2.2.2.2.2.2.2.1, u14.2.2.2.2.2.2.2.2.2.2.1, ((splice u14.2.2.2.2.2.2.2.2.2.2.2.1 ((0 + u14.2.2.1.toNat) * 1) [(AV.v (.int .i64 u14.2.2.2.2.2.2.1))]).map dat0), ((splice u14.2.2.2.2.2.2.2.2.2.2.2.2.1 ((0 + u14.2.2.2.2.2.2.1.toNat) * 1) [(AV.v (.bool true))]).map dat0))) else none) else none) else none) else none) | false => (kn (u14.1, u14.2.1, u14.2.2.1, u14.2.2.2.1, u14.2.2.2.2.1, u14.2.2.2.2.2.1, (i64 (u14.2.2.2.2.2.2.1 + 1)), u14.2.2.2.2.2.2.2.1, u14.2.2.2.2.2.2.2.2.1, u14.2.2.2.2.2.2.2.2.2.1, u14.2.2.2.2.2.2.2.2.2.2.1, (u14.2.2.2.2.2.2.2.2.2.2.2.1.map dat0), (u14.2.2.2.2.2.2.2.2.2.2.2.2.1.map dat0), u14.2.2.2.2.2.2.2.2.2.2.2.2.2))) | none => none) | none => none) | false => (kn (u14.1, u14.2.1, u14.2.2.1, u14.2.2.2.1, u14.2.2.2.2.1, u14.2.2.2.2.2.1, (i64 (u14.2.2.2.2.2.2.1 + 1)), u14.2.2.2.2.2.2.2.1, u14.2.2.2.2.2.2.2.2.1, u14.2.2.2.2.2.2.2.2.2.1, u14.2.2.2.2.2.2.2.2.2.2.1, (u14.2.2.2.2.2.2.2.2.2.2.2.1.map dat0), (u14.2.2.2.2.2.2.2.2.2.2.2.2.1.map dat0), u14.2.2.2.2.2.2.2.2.2.2.2.2.2))) | _ => none) | none => none) else none) | none => none) | none => none) else none) | false => (ke (u14.1, u14.2.2.2.1, u14.2.2.2.2.1, u14.2.2.2.2.2.2.2.1, u14.2.2.2.2.2.2.2.2.1, u14.2.2.2.2.2.2.2.2.2.1, u14.2.2.2.2.2.2.2.2.2.2.1, (u14.2.2.2.2.2.2.2.2.2.2.2.1.map dat0), (u14.2.2.2.2.2.2.2.2.2.2.2.2.1.map dat0))))
abbrev zjc (N : Nat) (x : qL × qL × Int × Int × Int × Int × Int × qL × Nat × qL × Nat × qA × qA × qL) : Option ((qL × Int × Int × qL × Nat × qL × Nat × qA × qA)) := (zT N).L N x
def Zl (N : Nat) : LSpec where
 X := qL × Int × Int × qL × Nat × qL × Nat × qA × qA
 Y := (qL × Nat × qL × Nat × qA × qA)
 p := fun s => ze9 s.env.length 58 <| ze9 s.nin 6 <| Z1 1 (s.at 11) fun a0 => pFn 78 (s.at 0) fun c4 c5 => zR c4 <| zR c5 <| zbr 1 0 (s.at 2) <| zbr 2 0 (s.at 3) <| zbr 3 0 (s.at 4) <| jQ .i64 (s.at 12) fun a1 => jQ .i64 (s.at 13) fun a2 => Z4 (s.bx 0) fun c12 => zj c12 fun c14 c15 => Z1 1 c14 fun a3 => zR c15 <| Z4 (s.bx 1) fun c16 => zj c16 fun c18 c19 => zhG 4 1 c18 fun a4 => zR c19 <| Z4 (s.bx 2) fun c20 => zj c20 fun c22 c23 => Z1 25 c22 fun a5 => zR c23 <| Z4 (s.bx 3) fun c24 => zj c24 fun c26 c27 => zhG 5 1 c26 fun a6 => zR c27 <| Z4 (s.bx 4) fun a7 => Z4 (s.bx 5) fun a8 => some (a0, a1, a2, a3, a4, a5, a6, a7, a8)
 st := fun u2 => mkS 58 [(11, (AV.list 1 u2.1 none)), (0, (AV.fn (.func 78) [] [])), (2, (AV.ptr 1 0)), (3, (AV.ptr 2 0)), (4, (AV.ptr 3 0)), (12, (qI u2.2.1)), (13, (qI u2.2.2.1))] [(0, [(AV.list 1 u2.2.2.2.1 none)]), (1, [(AV.vs 4 0 u2.2.2.2.2.1 1)]), (2, [(AV.list 25 u2.2.2.2.2.2.1 none)]), (3, [(AV.vs 5 0 u2.2.2.2.2.2.2.1 1)]), (4, u2.2.2.2.2.2.2.2.1), (5, u2.2.2.2.2.2.2.2.2)] (Z7 2).1.toks 6
 out := fun y => (.exit 0, mkS 58 [] [(0, [(AV.list 1 y.1 none)]), (1, [(AV.vs 4 0 y.2.1 1)]), (2, [(AV.list 25 y.2.2.1 none)]), (3, [(AV.vs 5 0 y.2.2.2.1 1)]), (4, y.2.2.2.2.1), (5, y.2.2.2.2.2)] (Z7 2).2.toks 6)
 b := fun u2 α kn ke => (match (decide (u2.2.2.1 < u2.2.1)) with | true => (if 0 <= u2.2.2.1 then (match u2.1[u2.2.2.1.toNat]? with | some c19 => (match zgc c19 with | some e20 => (if 0 <= u2.2.2.1 /\ u2.2.2.1 < (u2.2.2.2.2.1 : Int) then (match u2.2.2.2.2.2.2.2.1[((0 + u2.2.2.1.toNat) * 1)]? with | some x21 => (match x21 with | .v (.int q23 n22) => (if q23 = .i64 then (match (decide (n22 >= 0)) with | true => (kn (u2.1, u2.2.1, (i64 (u2.2.2.1 + 1)), u2.2.2.2.1, u2.2.2.2.2.1, u2.2.2.2.2.2.1, u2.2.2.2.2.2.2.1, (u2.2.2.2.2.2.2.2.1.map dat0), (u2.2.2.2.2.2.2.2.2.map dat0))) | false => (match ((e20.1.length : Int) == 0) with | true => (kn (u2.1, u2.2.1, (i64 (u2.2.2.1 + 1)), u2.2.2.2.1, u2.2.2.2.2.1, u2.2.2.2.2.2.1, u2.2.2.2.2.2.2.1, (u2.2.2.2.2.2.2.2.1.map dat0), (u2.2.2.2.2.2.2.2.2.map dat0))) | false => (match zjc N (u2.1, u2.2.2.2.2.2.1, u2.2.2.1, u2.2.1, u2.2.2.1, (u2.2.2.2.2.2.1.length : Int), 0, u2.2.2.2.1, u2.2.2.2.2.1, u2.2.2.2.2.2.1, u2.2.2.2.2.2.2.1, (u2.2.2.2.2.2.2.2.1.map dat0), (u2.2.2.2.2.2.2.2.2.map dat0), e20.1) with | some y24 => (kn (y24.1, y24.2.1, (i64 (y24.2.2.1 + 1)), y24.2.2.2.1, y24.2.2.2.2.1, y24.2.2.2.2.2.1, y24.2.2.2.2.2.2.1, (y24.2.2.2.2.2.2.2.1.map dat0), (y24.2.2.2.2.2.2.2.2.map dat0))) | none => none))) else none) | _ => none) | none => none) else none) | none => none) | none => none) else none) | false => (ke (u2.2.2.2.1, u2.2.2.2.2.1, u2.2.2.2.2.2.1, u2.2.2.2.2.2.2.1, (u2.2.2.2.2.2.2.2.1.map dat0), (u2.2.2.2.2.2.2.2.2.map dat0))))
abbrev zpn (N : Nat) (x : qL × Int × Int × qL × Nat × qL × Nat × qA × qA) : Option ((qL × Nat × qL × Nat × qA × qA)) := (Zl N).L N x
def zaF (N : Nat) : FSpec where
 X := qL × Nat × qL × Nat × qA × qA
 Y := qL × Nat × qL × Nat × qA × qA
 ash := [[none], [none], [none], [none], [none]]
 bsh := [[some 1], [none], [some 25], [none], [], []]
 S := ⟨[], [[some 1], [some 2000001], [some 25], [some 2000001], [], []], [], [], [4, 5]⟩
 pat := fun a b => zj a fun v1 c2 => pFn 78 v1 fun c3 c4 => zR c3 <| zR c4 <| zj c2 fun v5 c6 => zbr 0 0 v5 <| zj c6 fun v7 c8 => zbr 1 0 v7 <| zj c8 fun v9 c10 => zbr 2 0 v9 <| zj c10 fun v11 c12 => zbr 3 0 v11 <| zR c12 <| zj b fun v13 c14 => zj v13 fun c15 c16 => Z1 1 c15 fun a0 => zR c16 <| zj c14 fun v17 c18 => zj v17 fun c19 c20 => zhG 4 1 c19 fun a1 => zR c20 <| zj c18 fun v21 c22 => zj v21 fun c23 c24 => Z1 25 c23 fun a2 => zR c24 <| zj c22 fun v25 c26 => zj v25 fun c27 c28 => zhG 5 1 c27 fun a3 => zR c28 <| zj c26 fun a4 c29 => zj c29 fun a5 c30 => zR c30 <| some (a0, a1, a2, a3, a4, a5)
 args := fun x => [(AV.fn (.func 78) [] []), (AV.ptr 0 0), (AV.ptr 1 0), (AV.ptr 2 0), (AV.ptr 3 0)]
 bs := fun x => [[(AV.list 1 x.1 none)], [(AV.vs 4 0 x.2.1 1)], [(AV.list 25 x.2.2.1 none)], [(AV.vs 5 0 x.2.2.2.1 1)], x.2.2.2.2.1, x.2.2.2.2.2]
 ret := fun y => ⟨(AV.tup []), [[(AV.list 1 y.1 none)], [(AV.vs 4 0 y.2.1 1)], [(AV.list 25 y.2.2.1 none)], [(AV.vs 5 0 y.2.2.2.1 1)], y.2.2.2.2.1, y.2.2.2.2.2], none, [], [], [4, 5], none⟩
 t := fun x α k => (match zpn N (x.1, (x.1.length : Int), 0, x.1, x.2.1, x.2.2.1, x.2.2.2.1, (x.2.2.2.2.1.map dat0), (x.2.2.2.2.2.map dat0)) with | some y25 => (k (y25.1, y25.2.1, y25.2.2.1, y25.2.2.2.1, (y25.2.2.2.2.1.map dat0), (y25.2.2.2.2.2.map dat0))) | none => none)
abbrev zpm (N : Nat) (x : qL × Nat × qL × Nat × qA × qA) : Option (qL × Nat × qL × Nat × qA × qA) := (zaF N).d x
def zad (N : Nat) : List (Nat × LSpec) := [(2, Zl N), (14, zT N)]
def zba : Code := Tryz.f76.body.getD .skip
theorem zlm (N : Nat) : Par (zT N).b := by
 intro x α β kn ke kn' ke' r r' h h1 h2
 revert h
 dsimp only [zT]
 (repeat' (first | (with_reducible refine ze ?_ ?_) | split)) <;> intro h <;> first | exact h1 _ h | exact h2 _ h | cases h
theorem zhY (N : Nat) : je (zn qP) (zpo N) Z7 N (zad N) 14 zba (zT N) := fun x α kn ke => by kernel_rfl
theorem zln (N : Nat) (s : AS) (x : (zT N).X) (hc : s = ZM (Z7 14).1 s) (h : (zT N).p s = some x) : s = (zT N).st x := by
 replace h : ze9 _ _ _ = some x := h
 obtain ⟨h1, g0⟩ := jC h
 obtain ⟨h2, g1⟩ := jC g0; clear g0
 obtain ⟨a0, h3, g2⟩ := zq g1; clear g1
 obtain ⟨a1, h4, g3⟩ := zq g2; clear g2
 obtain ⟨c5, c6, h7, g4⟩ := zaL g3; clear g3
 obtain ⟨rfl, g5⟩ := zg g4; clear g4
 obtain ⟨rfl, g6⟩ := zg g5; clear g5
 obtain ⟨h8, g7⟩ := Zb g6; clear g6
 obtain ⟨h9, g8⟩ := Zb g7; clear g7
 obtain ⟨h10, g9⟩ := Zb g8; clear g8
 obtain ⟨a2, h11, g10⟩ := zA g9; clear g9
 obtain ⟨h12, g11⟩ := Zb g10; clear g10
 obtain ⟨a3, h13, g12⟩ := zA g11; clear g11
 obtain ⟨a4, h14, g13⟩ := zA g12; clear g12
 obtain ⟨a5, h15, g14⟩ := zA g13; clear g13
 obtain ⟨a6, h16, g15⟩ := zA g14; clear g14
 obtain ⟨c17, h18, g16⟩ := zP g15; clear g15
 obtain ⟨c19, c20, rfl, g17⟩ := zb g16; clear g16
 obtain ⟨a7, rfl, g18⟩ := zq g17; clear g17
 obtain ⟨rfl, g19⟩ := zg g18; clear g18
 obtain ⟨c21, h22, g20⟩ := zP g19; clear g19
 obtain ⟨c23, c24, rfl, g21⟩ := zb g20; clear g20
 obtain ⟨a8, rfl, g22⟩ := jk g21; clear g21
 obtain ⟨rfl, g23⟩ := zg g22; clear g22
 obtain ⟨c25, h26, g24⟩ := zP g23; clear g23
 obtain ⟨c27, c28, rfl, g25⟩ := zb g24; clear g24
 obtain ⟨a9, rfl, g26⟩ := zq g25; clear g25
 obtain ⟨rfl, g27⟩ := zg g26; clear g26
 obtain ⟨c29, h30, g28⟩ := zP g27; clear g27
 obtain ⟨c31, c32, rfl, g29⟩ := zb g28; clear g28
 obtain ⟨a10, rfl, g30⟩ := jk g29; clear g29
 obtain ⟨rfl, g31⟩ := zg g30; clear g30
 obtain ⟨a11, h33, g32⟩ := zP g31; clear g31
 obtain ⟨a12, h34, g33⟩ := zP g32; clear g32
 obtain ⟨c35, h36, g34⟩ := zP g33; clear g33
 obtain ⟨c37, c38, rfl, g35⟩ := zb g34; clear g34
 obtain ⟨a13, rfl, g36⟩ := zq g35; clear g35
 obtain ⟨rfl, g37⟩ := zg g36; clear g36
 clear h
 cases g37
 exact JP hc h1 h2 rfl rfl rfl rfl ⟨h3, h4, h7, h8, h9, h10, h11, h12, h13, h14, h15, h16, trivial⟩ ⟨h18, h22, h26, h30, h33, h34, h36, trivial⟩
theorem zdd (N : Nat) : ZE qP Z7 N (zad N) 14 (zc 14 zba) :=
 zC (zd qP) (zi _) zl Z7 N (zad N) 14 zba (l := []) (by kernel_rfl) (by kernel_rfl) an (zT N) rfl (zln N) (fun _ => rfl) (zhY N) (zlm N)
theorem zpp (N : Nat) : Par (Zl N).b := by
 intro x α β kn ke kn' ke' r r' h h1 h2
 revert h
 dsimp only [Zl]
 (repeat' (first | (with_reducible refine ze ?_ ?_) | split)) <;> intro h <;> first | exact h1 _ h | exact h2 _ h | cases h
theorem zlk (N : Nat) : je (zn qP) (zpo N) Z7 N (zad N) 2 zba (Zl N) := fun x α kn ke => by kernel_rfl
theorem zpr (N : Nat) (s : AS) (x : (Zl N).X) (hc : s = ZM (Z7 2).1 s) (h : (Zl N).p s = some x) : s = (Zl N).st x := by
 replace h : ze9 _ _ _ = some x := h
 obtain ⟨h1, g0⟩ := jC h
 obtain ⟨h2, g1⟩ := jC g0; clear g0
 obtain ⟨a0, h3, g2⟩ := zq g1; clear g1
 obtain ⟨c4, c5, h6, g3⟩ := zaL g2; clear g2
 obtain ⟨rfl, g4⟩ := zg g3; clear g3
 obtain ⟨rfl, g5⟩ := zg g4; clear g4
 obtain ⟨h7, g6⟩ := Zb g5; clear g5
 obtain ⟨h8, g7⟩ := Zb g6; clear g6
 obtain ⟨h9, g8⟩ := Zb g7; clear g7
 obtain ⟨a1, h10, g9⟩ := zA g8; clear g8
 obtain ⟨a2, h11, g10⟩ := zA g9; clear g9
 obtain ⟨c12, h13, g11⟩ := zP g10; clear g10
 obtain ⟨c14, c15, rfl, g12⟩ := zb g11; clear g11
 obtain ⟨a3, rfl, g13⟩ := zq g12; clear g12
 obtain ⟨rfl, g14⟩ := zg g13; clear g13
 obtain ⟨c16, h17, g15⟩ := zP g14; clear g14
 obtain ⟨c18, c19, rfl, g16⟩ := zb g15; clear g15
 obtain ⟨a4, rfl, g17⟩ := jk g16; clear g16
 obtain ⟨rfl, g18⟩ := zg g17; clear g17
 obtain ⟨c20, h21, g19⟩ := zP g18; clear g18
 obtain ⟨c22, c23, rfl, g20⟩ := zb g19; clear g19
 obtain ⟨a5, rfl, g21⟩ := zq g20; clear g20
 obtain ⟨rfl, g22⟩ := zg g21; clear g21
 obtain ⟨c24, h25, g23⟩ := zP g22; clear g22
 obtain ⟨c26, c27, rfl, g24⟩ := zb g23; clear g23
 obtain ⟨a6, rfl, g25⟩ := jk g24; clear g24
 obtain ⟨rfl, g26⟩ := zg g25; clear g25
 obtain ⟨a7, h28, g27⟩ := zP g26; clear g26
 obtain ⟨a8, h29, g28⟩ := zP g27; clear g27
 clear h
 cases g28
 exact JP hc h1 h2 rfl rfl rfl rfl ⟨h3, h6, h7, h8, h9, h10, h11, trivial⟩ ⟨h13, h17, h21, h25, h28, h29, trivial⟩
theorem zll (N : Nat) : ZE qP Z7 N (zad N) 2 (zc 2 zba) :=
 zC (zd qP) (zi _) zl Z7 N (zad N) 2 zba (l := [(14, zc 14 zba)]) (by kernel_rfl) (by kernel_rfl) (al (zdd N) an) (Zl N) rfl (zpr N) (fun _ => rfl) (zlk N) (zpp N)
theorem zpq (N : Nat) : Zc (zaF N).t := by
 intro x α β k k' r r' h h1
 revert h
 dsimp only [zaF]
 (repeat' (first | (with_reducible refine ze ?_ ?_) | split)) <;> intro h <;> first | exact h1 _ h | cases h
theorem zps (N : Nat) : Ze (zn qP) (zpo N) Z7 (lam N (zad N)) Tryz.f76 (zaF N) := fun x => by kernel_rfl
theorem ztH (N : Nat) (a : List AV) (b : qL) (x : (zaF N).X) (h : (zaF N).pat a b = some x) : a = (zaF N).args x /\ b = (zaF N).bs x := by
 obtain ⟨v1, c2, rfl, g0⟩ := zb (show zj _ _ = some x from h)
 obtain ⟨c3, c4, rfl, g1⟩ := zaL g0; clear g0
 obtain ⟨rfl, g2⟩ := zg g1; clear g1
 obtain ⟨rfl, g3⟩ := zg g2; clear g2
 obtain ⟨v5, c6, rfl, g4⟩ := zb g3; clear g3
 obtain ⟨rfl, g5⟩ := Zb g4; clear g4
 obtain ⟨v7, c8, rfl, g6⟩ := zb g5; clear g5
 obtain ⟨rfl, g7⟩ := Zb g6; clear g6
 obtain ⟨v9, c10, rfl, g8⟩ := zb g7; clear g7
 obtain ⟨rfl, g9⟩ := Zb g8; clear g8
 obtain ⟨v11, c12, rfl, g10⟩ := zb g9; clear g9
 obtain ⟨rfl, g11⟩ := Zb g10; clear g10
 obtain ⟨rfl, g12⟩ := zg g11; clear g11
 obtain ⟨v13, c14, rfl, g13⟩ := zb g12; clear g12
 obtain ⟨c15, c16, rfl, g14⟩ := zb g13; clear g13
 obtain ⟨a0, rfl, g15⟩ := zq g14; clear g14
 obtain ⟨rfl, g16⟩ := zg g15; clear g15
 obtain ⟨v17, c18, rfl, g17⟩ := zb g16; clear g16
 obtain ⟨c19, c20, rfl, g18⟩ := zb g17; clear g17
 obtain ⟨a1, rfl, g19⟩ := jk g18; clear g18
 obtain ⟨rfl, g20⟩ := zg g19; clear g19
 obtain ⟨v21, c22, rfl, g21⟩ := zb g20; clear g20
 obtain ⟨c23, c24, rfl, g22⟩ := zb g21; clear g21
 obtain ⟨a2, rfl, g23⟩ := zq g22; clear g22
 obtain ⟨rfl, g24⟩ := zg g23; clear g23
 obtain ⟨v25, c26, rfl, g25⟩ := zb g24; clear g24
 obtain ⟨c27, c28, rfl, g26⟩ := zb g25; clear g25
 obtain ⟨a3, rfl, g27⟩ := jk g26; clear g26
 obtain ⟨rfl, g28⟩ := zg g27; clear g27
 obtain ⟨a4, c29, rfl, g29⟩ := zb g28; clear g28
 obtain ⟨a5, c30, rfl, g30⟩ := zb g29; clear g29
 obtain ⟨rfl, g31⟩ := zg g30; clear g30
 clear h
 cases g31
 exact ⟨rfl, rfl⟩
def zBy (N : Nat) : Ent qP := zx (zd qP) (zi _) zl 76 Tryz.f76 Tryz.func76 rfl Z7 (lam N (zad N)) (zm (l := [(2, zc 2 zba), (14, zc 14 zba)]) (al (zll N) (al (zdd N) an)) (by kernel_rfl)) (zaF N) (fun _ => ⟨rfl, rfl⟩) (zps N) (ztH N) (zpq N)
def zwv : Nat -> Keep × Keep := anF [] [(100006, ([], [((5, 0), 1)]))]
def zDC (N : Nat) : GamK := gam (P := qP) [zBx N, zDZ N, zBy N]
def zd7 (N : Nat) : FSpec where
 X := qL × qL
 Y := qL
 ash := [[some 1], [some 25]]
 S := ⟨[[some 2000001]], [], [], [], []⟩
 pat := fun a b => zj a fun v1 c2 => Z3 v1 fun c3 => zj c3 fun c4 c5 => Z1 1 c4 fun a0 => zR c5 <| zj c2 fun v6 c7 => Z1 25 v6 fun a1 => zR c7 <| zR b <| some (a0, a1)
 args := fun x => [(AV.agg [(AV.list 1 x.1 none)]), (AV.list 25 x.2 none)]
 ret := fun y => ⟨(AV.list 1 y (some 2560000000)), [], none, [], [2560000000], [], none⟩
 t := fun x α k => (match zwX N ([[(AV.v (.int .i64 (-1)))]], (x.1.length : Int)) with | some y1 => (if 0 <= (x.2.length : Int) /\ (x.2.length : Int) <= (x.2.length : Int) /\ (x.2.length : Int).toNat * 1 <= zh then (match zyI N (x.1, y1.1, x.2, ((x.2.length : Int).toNat), ((y1.2.map dat0).map dat0), ((List.replicate (x.2.length : Int).toNat (AV.v (.bool false))).map dat0)) with | some y2 => (match zpm N (y2.1, y2.2.1, y2.2.2.1, y2.2.2.2.1, (y2.2.2.2.2.1.map dat0), (y2.2.2.2.2.2.map dat0)) with | some y3 => (if y3.2.1 * 1 <= y3.2.2.2.2.1.length then (k (zL (y3.2.2.2.2.1.take (y3.2.1 * 1)) 1 y3.2.1)) else none) | none => none) | none => none) else none) | none => none)
abbrev zsl (N : Nat) (x : qL × qL) : Option (qL) := (zd7 N).d x
theorem zsm (N : Nat) : Zc (zd7 N).t := by
 intro x α β k k' r r' h h1
 revert h
 dsimp only [zd7]
 (repeat' (first | (with_reducible refine ze ?_ ?_) | split)) <;> intro h <;> first | exact h1 _ h | cases h
theorem zsn (N : Nat) : Ze (J2 qP [12]) (zDC N) zwv (lam N []) Tryz.f40 (zd7 N) := fun x => by kernel_rfl
theorem zyj (N : Nat) (a : List AV) (b : qL) (x : (zd7 N).X) (h : (zd7 N).pat a b = some x) : a = (zd7 N).args x /\ b = (zd7 N).bs x := by
 obtain ⟨v1, c2, rfl, g0⟩ := zb (show zj _ _ = some x from h)
 obtain ⟨c3, rfl, g1⟩ := zO g0; clear g0
 obtain ⟨c4, c5, rfl, g2⟩ := zb g1; clear g1
 obtain ⟨a0, rfl, g3⟩ := zq g2; clear g2
 obtain ⟨rfl, g4⟩ := zg g3; clear g3
 obtain ⟨v6, c7, rfl, g5⟩ := zb g4; clear g4
 obtain ⟨a1, rfl, g6⟩ := zq g5; clear g5
 obtain ⟨rfl, g7⟩ := zg g6; clear g6
 obtain ⟨rfl, g8⟩ := zg g7; clear g7
 clear h
 cases g8
 exact ⟨rfl, rfl⟩
def zDB (N : Nat) : Ent qP := zx (zM qP [12]) (zi _) zl 40 Tryz.f40 Tryz.func40 rfl zwv (lam N []) (zm (l := []) an (by kernel_rfl)) (zd7 N) (fun _ => ⟨rfl, rfl⟩) (zsn N) (zyj N) (zsm N)
end
end Go.Proofs.YthdgnfcbehcplaaGreatDoor
end
section
namespace Go.Proofs.YthdgnfcbehcplaaGreatDoor
noncomputable section
open Go.RowKit
set_option maxRecDepth 4000
set_option maxHeartbeats 4000000
def zw5 : Nat -> Keep × Keep := anL []
def zD8 (N : Nat) : GamK := gam (P := qP) []
def zeg (N : Nat) : FSpec where
 X := qL × Int
 Y := Bool
 ash := [[some 1], [none]]
 S := ⟨[[none]], [], [], [], []⟩
 pat := fun a b => zj a fun v1 c2 => Z3 v1 fun c3 => zj c3 fun c4 c5 => Z1 1 c4 fun a0 => zR c5 <| zj c2 fun v6 c7 => jQ .i64 v6 fun a1 => zR c7 <| zR b <| some (a0, a1)
 args := fun x => [(AV.agg [(AV.list 1 x.1 none)]), (AV.v (.int .i64 x.2))]
 ret := fun y => ⟨(AV.v (.bool y)), [], none, [], [], [], none⟩
 t := fun x α k => (match (decide (x.2 >= 0)) with | true => (k (decide (x.2 < (x.1.length : Int)))) | false => (k false))
abbrev zpD (N : Nat) (x : qL × Int) : Option (Bool) := (zeg N).d x
theorem zt2 (N : Nat) : Zc (zeg N).t := by
 intro x α β k k' r r' h h1
 revert h
 dsimp only [zeg]
 (repeat' (first | (with_reducible refine ze ?_ ?_) | split)) <;> intro h <;> first | exact h1 _ h | cases h
theorem zt3 (N : Nat) : Ze (zn qP) (zD8 N) zw5 (lam N []) Tryz.f83 (zeg N) := fun x => by kernel_rfl
theorem zyN (N : Nat) (a : List AV) (b : qL) (x : (zeg N).X) (h : (zeg N).pat a b = some x) : a = (zeg N).args x /\ b = (zeg N).bs x := by
 obtain ⟨v1, c2, rfl, g0⟩ := zb (show zj _ _ = some x from h)
 obtain ⟨c3, rfl, g1⟩ := zO g0; clear g0
 obtain ⟨c4, c5, rfl, g2⟩ := zb g1; clear g1
 obtain ⟨a0, rfl, g3⟩ := zq g2; clear g2
 obtain ⟨rfl, g4⟩ := zg g3; clear g3
 obtain ⟨v6, c7, rfl, g5⟩ := zb g4; clear g4
 obtain ⟨a1, rfl, g6⟩ := zA g5; clear g5
 obtain ⟨rfl, g7⟩ := zg g6; clear g6
 obtain ⟨rfl, g8⟩ := zg g7; clear g7
 clear h
 cases g8
 exact ⟨rfl, rfl⟩
def zD7 (N : Nat) : Ent qP := zx (zd qP) (zi _) zl 83 Tryz.f83 Tryz.func83 rfl zw5 (lam N []) (zm (l := []) an (by kernel_rfl)) (zeg N) (fun _ => ⟨rfl, rfl⟩) (zt3 N) (zyN N) (zt2 N)
def zwH : Nat -> Keep × Keep := anL []
def zDI (N : Nat) : GamK := gam (P := qP) []
def zoQ (N : Nat) : FSpec where
 X := Int
 Y := Bool
 ash := [[none]]
 S := ⟨[[none]], [], [], [], []⟩
 pat := fun a b => rdA [.int .i64] [] a b fun ⟨a0, _⟩ _ => a0
 args := fun x => [(AV.v (.int .i64 x))]
 ret := fun y => ⟨(AV.v (.bool y)), [], none, [], [], [], none⟩
 t := fun x α k => (if 0 <= x /\ x < 7 then (match ((gtab3.map AV.v).drop (x.toNat * 1))[0]? with | some x1 => (match x1 with | .v (.bool b2) => (match b2 with | true => (k true) | false => (k (x == 6))) | _ => none) | none => none) else none)
abbrev zsS (N : Nat) (x : Int) : Option (Bool) := (zoQ N).d x
theorem zsT (N : Nat) : Zc (zoQ N).t := by
 intro x α β k k' r r' h h1
 revert h
 dsimp only [zoQ]
 (repeat' (first | (with_reducible refine ze ?_ ?_) | split)) <;> intro h <;> first | exact h1 _ h | cases h
theorem zsU (N : Nat) : Ze (zn qP) (zDI N) zwH (lam N []) Tryz.f54 (zoQ N) := fun x => by kernel_rfl
def zBj (N : Nat) : Ent qP := zx (zd qP) (zi _) zl 54 Tryz.f54 Tryz.func54 rfl zwH (lam N []) (zm (l := []) an (by kernel_rfl)) (zoQ N) (fun _ => ⟨rfl, rfl⟩) (zsU N) (fun _ _ _ h => zu h (fun _ _ => rfl) (fun _ _ => rfl)) (zsT N)
def jy : Nat -> Keep × Keep := anL [(5, ⟨[2, 3, 11, 12], [], [2, 3], [(10, 1)], [((2, 0), 1)], [], [((3, 0), 1)], [], false, some 2012288, []⟩, ⟨[2, 3], [], [2, 3], [], [((2, 0), 1)], [], [((3, 0), 1)], [], false, some 2012288, []⟩), (16, ⟨[2, 3, 11, 12, 18, 19], [(6, 29)], [2, 3], [(10, 1), (17, 29)], [((2, 0), 1)], [], [((3, 0), 1)], [], false, some 2012288, []⟩, ⟨[2, 3, 11, 12], [(6, 29)], [2, 3], [(10, 1)], [((2, 0), 1)], [], [((3, 0), 1)], [], false, some 2012288, []⟩)]
def zoL (N : Nat) : GamK := gam (P := qP) [zsX N]
def Zt (N : Nat) : LSpec where
 X := qL × qL × qL × Int × Int × Int × Int × qL × Nat × qA × Nat × Nat
 Y := (qL × qL × Int × Int × qL × Nat × qA × Nat × Nat)
 p := fun s => rdF 41 0 2012288 [(6, .tok 29 1280000384), (10, .lst 1), (17, .lst 29), (2, .ptr 2 0), (3, .ptr 3 0), (11, .int .i64), (12, .int .i64), (18, .int .i64), (19, .int .i64)] [(2, .cells [.tok 1 6400524288]), (3, .cells [.vs0 2012288 1]), (2012288, .tt)] s fun ⟨a0, a1, a2, _, _, a3, a4, a5, a6, _⟩ ⟨⟨a7, _⟩, ⟨a8, _⟩, a9, _⟩ a10 a11 => (a0, a1, a2, a3, a4, a5, a6, a7, a8, a9, a10, a11)
 st := fun u16 => mkF 41 [(6, (AV.list 29 u16.1 (some 1280000384))), (10, (AV.list 1 u16.2.1 none)), (17, (AV.list 29 u16.2.2.1 none)), (2, (AV.ptr 2 0)), (3, (AV.ptr 3 0)), (11, (qI u16.2.2.2.1)), (12, (qI u16.2.2.2.2.1)), (18, (qI u16.2.2.2.2.2.1)), (19, (qI u16.2.2.2.2.2.2.1))] [(2, [(AV.list 1 u16.2.2.2.2.2.2.2.1 (some 6400524288))]), (3, [(AV.vs 2012288 0 u16.2.2.2.2.2.2.2.2.1 1)]), (2012288, u16.2.2.2.2.2.2.2.2.2.1)] (jy 16).1.toks 0 (some (2012288, u16.2.2.2.2.2.2.2.2.2.2.1, u16.2.2.2.2.2.2.2.2.2.2.2))
 out := fun y => (.exit 2, mkF 41 [(6, (AV.list 29 y.1 (some 1280000384))), (10, (AV.list 1 y.2.1 none)), (2, (AV.ptr 2 0)), (3, (AV.ptr 3 0)), (11, (qI y.2.2.1)), (12, (qI y.2.2.2.1))] [(2, [(AV.list 1 y.2.2.2.2.1 (some 6400524288))]), (3, [(AV.vs 2012288 0 y.2.2.2.2.2.1 1)]), (2012288, y.2.2.2.2.2.2.1)] (jy 16).2.toks 0 (some (2012288, y.2.2.2.2.2.2.2.1, y.2.2.2.2.2.2.2.2)))
 b := fun u16 α kn ke => (match (decide (u16.2.2.2.2.2.2.1 < u16.2.2.2.2.2.1)) with | true => (if 0 <= u16.2.2.2.2.2.2.1 then (match u16.2.2.1[u16.2.2.2.2.2.2.1.toNat]? with | some c6 => (match zlD c6 with | some e7 => (match zcs N (zw e7) with | some y8 => (if (u16.1.length + [(zK (e7.1, e7.2.1, e7.2.2.1, e7.2.2.2.1, y8))].length) * 288 <= zh then (kn ((u16.1 ++ [(zK (e7.1, e7.2.1, e7.2.2.1, e7.2.2.2.1, y8))]), u16.2.1, u16.2.2.1, u16.2.2.2.1, u16.2.2.2.2.1, u16.2.2.2.2.2.1, (i64 (u16.2.2.2.2.2.2.1 + 1)), u16.2.2.2.2.2.2.2.1, u16.2.2.2.2.2.2.2.2.1, (u16.2.2.2.2.2.2.2.2.2.1.map datF), u16.2.2.2.2.2.2.2.2.2.2)) else none) | none => none) | none => none) | none => none) else none) | false => (ke (u16.1, u16.2.1, u16.2.2.2.1, u16.2.2.2.2.1, u16.2.2.2.2.2.2.2.1, u16.2.2.2.2.2.2.2.2.1, (u16.2.2.2.2.2.2.2.2.2.1.map datF), u16.2.2.2.2.2.2.2.2.2.2)))
abbrev zi9 (N : Nat) (x : qL × qL × qL × Int × Int × Int × Int × qL × Nat × qA × Nat × Nat) : Option ((qL × qL × Int × Int × qL × Nat × qA × Nat × Nat)) := (Zt N).L N x
def ZW (N : Nat) : LSpec where
 X := qL × Int × Int × qL × Nat × qA × Nat × Nat
 Y := (qL × Nat × qA × Nat × Nat)
 p := fun s => rdF 41 0 2012288 [(10, .lst 1), (2, .ptr 2 0), (3, .ptr 3 0), (11, .int .i64), (12, .int .i64)] [(2, .cells [.tok 1 6400524288]), (3, .cells [.vs0 2012288 1]), (2012288, .tt)] s fun ⟨a0, _, _, a1, a2, _⟩ ⟨⟨a3, _⟩, ⟨a4, _⟩, a5, _⟩ a6 a7 => (a0, a1, a2, a3, a4, a5, a6, a7)
 st := fun u5 => mkF 41 [(10, (AV.list 1 u5.1 none)), (2, (AV.ptr 2 0)), (3, (AV.ptr 3 0)), (11, (qI u5.2.1)), (12, (qI u5.2.2.1))] [(2, [(AV.list 1 u5.2.2.2.1 (some 6400524288))]), (3, [(AV.vs 2012288 0 u5.2.2.2.2.1 1)]), (2012288, u5.2.2.2.2.2.1)] (jy 5).1.toks 0 (some (2012288, u5.2.2.2.2.2.2.1, u5.2.2.2.2.2.2.2))
 out := fun y => (.exit 0, mkF 41 [(2, (AV.ptr 2 0)), (3, (AV.ptr 3 0))] [(2, [(AV.list 1 y.1 (some 6400524288))]), (3, [(AV.vs 2012288 0 y.2.1 1)]), (2012288, y.2.2.1)] (jy 5).2.toks 0 (some (2012288, y.2.2.2.1, y.2.2.2.2)))
 b := fun u5 α kn ke => (match (decide (u5.2.2.1 < u5.2.1)) with | true => (if 0 <= u5.2.2.1 then (match u5.1[u5.2.2.1.toNat]? with | some c10 => (match zgc c10 with | some e11 => (match zi9 N (([] : qL), u5.1, e11.1, u5.2.1, u5.2.2.1, (e11.1.length : Int), 0, u5.2.2.2.1, u5.2.2.2.2.1, (u5.2.2.2.2.2.1.map datF), u5.2.2.2.2.2.2) with | some y12 => (if (y12.2.2.2.2.2.2.2.2 = y12.2.2.2.2.2.1 /\ y12.2.2.2.2.2.2.2.1 <= y12.2.2.2.2.2.2.2.2) /\ y12.2.2.2.2.2.1 * 1 <= y12.2.2.2.2.2.2.1.length /\ (y12.2.2.2.2.2.1 + 1) * 24 <= zh then (kn (y12.2.1, y12.2.2.1, (i64 (y12.2.2.2.1 + 1)), y12.2.2.2.2.1, (y12.2.2.2.2.2.1 + 1), ((y12.2.2.2.2.2.2.1.take (y12.2.2.2.2.2.1 * 1) ++ [AV.list 29 y12.1 (some (TOB + y12.2.2.2.2.2.2.2.2))]).map datF), y12.2.2.2.2.2.2.2.1, (y12.2.2.2.2.2.2.2.2 + 1))) else none) | none => none) | none => none) | none => none) else none) | false => (ke (u5.2.2.2.1, u5.2.2.2.2.1, (u5.2.2.2.2.2.1.map datF), u5.2.2.2.2.2.2)))
abbrev zoK (N : Nat) (x : qL × Int × Int × qL × Nat × qA × Nat × Nat) : Option ((qL × Nat × qA × Nat × Nat)) := (ZW N).L N x
def zaE (N : Nat) : FSpec where
 X := qL
 Y := Nat × qA × Nat × Nat
 ash := [[some 1]]
 S := ⟨[[some 1]], [], [], [], []⟩
 bm := true
 pat := fun a b => zj a fun v1 c2 => Z3 v1 fun c3 => zj c3 fun c4 c5 => Z1 1 c4 fun a0 => zR c5 <| zR c2 <| zR b <| some a0
 args := fun x => [(AV.agg [(AV.list 1 x none)])]
 ret := fun y => ⟨(AV.agg [(AV.vs 0 0 y.1 1)]), [], some y.2.1, [], [], [], some (y.2.2.1, y.2.2.2)⟩
 t := fun x α k => (match zoK N (x, (x.length : Int), 0, ([] : qL), 0, ([] : List AV), 0, 0) with | some y13 => (k (y13.2.1, (y13.2.2.1.map datF), y13.2.2.2)) | none => none)
abbrev zi8 (N : Nat) (x : qL) : Option (Nat × qA × Nat × Nat) := (zaE N).d x
def zab (N : Nat) : List (Nat × LSpec) := [(5, ZW N), (16, Zt N)]
def za9 : Code := Tryz.f52.body.getD .skip
theorem zk3 (N : Nat) : Par (Zt N).b := by
 intro x α β kn ke kn' ke' r r' h h1 h2
 revert h
 dsimp only [Zt]
 (repeat' (first | (with_reducible refine ze ?_ ?_) | split)) <;> intro h <;> first | exact h1 _ h | exact h2 _ h | cases h
theorem zhR (N : Nat) : je (J2 qP [36, 37]) (zoL N) jy N (zab N) 16 za9 (Zt N) := fun x α kn ke => by kernel_rfl
theorem zc7 (N : Nat) : ZE qP jy N (zab N) 16 (zc 16 za9) :=
 zC (zM qP [36, 37]) (zi _) zl jy N (zab N) 16 za9 (l := []) (by kernel_rfl) (by kernel_rfl) an (Zt N) rfl (fun s x hc h => by dsimp only [Zt] at h; exact zbn hc h (fun _ _ _ _ => rfl) rfl rfl) (fun _ => rfl) (zhR N) (zk3 N)
theorem zoM (N : Nat) : Par (ZW N).b := by
 intro x α β kn ke kn' ke' r r' h h1 h2
 revert h
 dsimp only [ZW]
 (repeat' (first | (with_reducible refine ze ?_ ?_) | split)) <;> intro h <;> first | exact h1 _ h | exact h2 _ h | cases h
theorem zk1 (N : Nat) : je (J2 qP [36, 37]) (zoL N) jy N (zab N) 5 za9 (ZW N) := fun x α kn ke => by kernel_rfl
theorem zk2 (N : Nat) : ZE qP jy N (zab N) 5 (zc 5 za9) :=
 zC (zM qP [36, 37]) (zi _) zl jy N (zab N) 5 za9 (l := [(16, zc 16 za9)]) (by kernel_rfl) (by kernel_rfl) (al (zc7 N) an) (ZW N) rfl (fun s x hc h => by dsimp only [ZW] at h; exact zbn hc h (fun _ _ _ _ => rfl) rfl rfl) (fun _ => rfl) (zk1 N) (zoM N)
theorem zoN (N : Nat) : Zc (zaE N).t := by
 intro x α β k k' r r' h h1
 revert h
 dsimp only [zaE]
 (repeat' (first | (with_reducible refine ze ?_ ?_) | split)) <;> intro h <;> first | exact h1 _ h | cases h
theorem zoO (N : Nat) : Ze (J2 qP [36, 37]) (zoL N) jy (lam N (zab N)) Tryz.f52 (zaE N) := fun x => by kernel_rfl
theorem zsO (N : Nat) (a : List AV) (b : qL) (x : (zaE N).X) (h : (zaE N).pat a b = some x) : a = (zaE N).args x /\ b = (zaE N).bs x := by
 obtain ⟨v1, c2, rfl, g0⟩ := zb (show zj _ _ = some x from h)
 obtain ⟨c3, rfl, g1⟩ := zO g0; clear g0
 obtain ⟨c4, c5, rfl, g2⟩ := zb g1; clear g1
 obtain ⟨a0, rfl, g3⟩ := zq g2; clear g2
 obtain ⟨rfl, g4⟩ := zg g3; clear g3
 obtain ⟨rfl, g5⟩ := zg g4; clear g4
 obtain ⟨rfl, g6⟩ := zg g5; clear g5
 clear h
 cases g6
 exact ⟨rfl, rfl⟩
def zwF (N : Nat) : Ent qP := zx (zM qP [36, 37]) (zi _) zl 52 Tryz.f52 Tryz.func52 rfl jy (lam N (zab N)) (zm (l := [(5, zc 5 za9), (16, zc 16 za9)]) (al (zk2 N) (al (zc7 N) an)) (by kernel_rfl)) (zaE N) (fun _ => ⟨rfl, rfl⟩) (zoO N) (zsO N) (zoN N)
def ZH : Nat -> Keep × Keep := anF [(2, ⟨[1, 3, 5, 6], [], [3, 5, 6], [], [((6, 0), 1)], [], [], [], true, none, []⟩, ⟨[1, 3, 5, 6, 7], [], [3, 5, 6], [], [((6, 0), 1)], [], [], [], false, none, []⟩), (6, ⟨[1, 3, 5, 6], [], [3, 5, 6], [], [((6, 0), 1)], [], [], [], true, none, []⟩, ⟨[1, 3, 5, 6, 7], [], [3, 5, 6], [], [((6, 0), 1)], [], [], [], false, none, []⟩), (18, ⟨[1, 3, 5, 6, 9], [], [3, 5, 6, 9], [], [((6, 0), 1)], [], [], [], true, none, []⟩, ⟨[1, 3, 5, 6, 9, 63], [], [3, 5, 6, 9], [], [((6, 0), 1)], [], [], [], false, none, []⟩), (27, ⟨[1, 3, 5, 6, 9, 95], [], [3, 5, 6, 9], [], [((6, 0), 1)], [], [], [], true, none, []⟩, ⟨[1, 3, 5, 6], [], [3, 5, 6], [], [((6, 0), 1)], [], [], [], false, none, []⟩)] [(100019, ([], [((10, 0), 1)]))]
def zov (N : Nat) : GamK := gam (P := qP) [zrS N, zBB N, zBD N, zD7 N, zBi N, zsP N, zBj N, zsX N, zwF N]
def Jq (N : Nat) : LSpec where
 X := Int × Bool × qL × RT7 × qL × RT7
 Y := (Int × qL × RT7 × qL)
 p := fun s => rdS 120 0 [(1, .int .i64), (3, .ptr 3 0), (5, .ptr 5 0), (6, .ptr 6 0), (9, .ptr 9 0), (95, .bool)] [(3, .cells [.lst 1]), (5, .row RK7), (6, .cells [.tok 1 6401572864]), (9, .row RK7)] s fun ⟨a0, _, _, _, _, a1, _⟩ ⟨⟨a2, _⟩, a3, ⟨a4, _⟩, a5, _⟩ => (a0, a1, a2, a3, a4, a5)
 st := fun u27 => mkS 120 [(1, (qI u27.1)), (3, (AV.ptr 3 0)), (5, (AV.ptr 5 0)), (6, (AV.ptr 6 0)), (9, (AV.ptr 9 0)), (95, (AV.v (.bool u27.2.1)))] [(3, [(AV.list 1 u27.2.2.1 none)]), (5, (zK u27.2.2.2.1)), (6, [(AV.list 1 u27.2.2.2.2.1 (some 6401572864))]), (9, (zK u27.2.2.2.2.2))] (ZH 27).1.toks 0
 out := fun y => (.normal, mkS 120 [(1, (qI y.1)), (3, (AV.ptr 3 0)), (5, (AV.ptr 5 0)), (6, (AV.ptr 6 0))] [(3, [(AV.list 1 y.2.1 none)]), (5, (zK y.2.2.1)), (6, [(AV.list 1 y.2.2.2 (some 6401572864))])] (ZH 27).2.toks 0)
 b := fun u27 α kn ke => (match u27.2.1 with | true => (ke (u27.1, u27.2.2.1, (u27.2.2.2.1.1, u27.2.2.2.1.2.1, u27.2.2.2.1.2.2.1, u27.2.2.2.1.2.2.2.1, u27.2.2.2.2.2.2.2.2.2), u27.2.2.2.2.1)) | false => (ke (u27.1, u27.2.2.1, u27.2.2.2.1, u27.2.2.2.2.1)))
abbrev zou (N : Nat) (x : Int × Bool × qL × RT7 × qL × RT7) : Option ((Int × qL × RT7 × qL)) := (Jq N).L N x
def jx (N : Nat) : LSpec where
 X := Int × qL × RT7 × qL × RT7
 Y := (Int × Bool × qL × RT7 × qL × RT7)
 p := fun s => rdS 120 0 [(1, .int .i64), (3, .ptr 3 0), (5, .ptr 5 0), (6, .ptr 6 0), (9, .ptr 9 0)] [(3, .cells [.lst 1]), (5, .row RK7), (6, .cells [.tok 1 6401572864]), (9, .row RK7)] s fun ⟨a0, _, _, _, _, _⟩ ⟨⟨a1, _⟩, a2, ⟨a3, _⟩, a4, _⟩ => (a0, a1, a2, a3, a4)
 st := fun u18 => mkS 120 [(1, (qI u18.1)), (3, (AV.ptr 3 0)), (5, (AV.ptr 5 0)), (6, (AV.ptr 6 0)), (9, (AV.ptr 9 0))] [(3, [(AV.list 1 u18.2.1 none)]), (5, (zK u18.2.2.1)), (6, [(AV.list 1 u18.2.2.2.1 (some 6401572864))]), (9, (zK u18.2.2.2.2))] (ZH 18).1.toks 0
 out := fun y => (.normal, mkS 120 [(1, (qI y.1)), (3, (AV.ptr 3 0)), (5, (AV.ptr 5 0)), (6, (AV.ptr 6 0)), (9, (AV.ptr 9 0)), (63, (AV.v (.bool y.2.1)))] [(3, [(AV.list 1 y.2.2.1 none)]), (5, (zK y.2.2.2.1)), (6, [(AV.list 1 y.2.2.2.2.1 (some 6401572864))]), (9, (zK y.2.2.2.2.2))] (ZH 18).2.toks 0)
 b := fun u18 α kn ke => (match (u18.2.2.1.1 == 5) with | true => (match (u18.2.2.1.2.2.2.1 == u18.1) with | true => (ke (u18.1, true, u18.2)) | false => (match (u18.2.2.1.1 == 6) with | true => (match zsS N u18.2.2.2.2.1 with | some y30 => (ke (u18.1, y30, u18.2)) | none => none) | false => (ke (u18.1, false, u18.2)))) | false => (match (u18.2.2.1.1 == 6) with | true => (match zsS N u18.2.2.2.2.1 with | some y31 => (ke (u18.1, y31, u18.2)) | none => none) | false => (ke (u18.1, false, u18.2))))
abbrev zhP (N : Nat) (x : Int × qL × RT7 × qL × RT7) : Option ((Int × Bool × qL × RT7 × qL × RT7)) := (jx N).L N x
def Jz (N : Nat) : LSpec where
 X := Int × qL × RT7 × qL
 Y := (Int × Int × qL × RT7 × qL) ⊕ (Int × qL × RT7 × qL)
 p := fun s => rdS 120 0 [(1, .int .i64), (3, .ptr 3 0), (5, .ptr 5 0), (6, .ptr 6 0)] [(3, .cells [.lst 1]), (5, .row RK7), (6, .cells [.tok 1 6401572864])] s fun ⟨a0, _, _, _, _⟩ ⟨⟨a1, _⟩, a2, ⟨a3, _⟩, _⟩ => (a0, a1, a2, a3)
 st := fun u6 => mkS 120 [(1, (qI u6.1)), (3, (AV.ptr 3 0)), (5, (AV.ptr 5 0)), (6, (AV.ptr 6 0))] [(3, [(AV.list 1 u6.2.1 none)]), (5, (zK u6.2.2.1)), (6, [(AV.list 1 u6.2.2.2 (some 6401572864))])] (ZH 6).1.toks 0
 out := fun y => match y with
  | .inl y => (.ret, mkS 120 [(1, (qI y.1)), (3, (AV.ptr 3 0)), (5, (AV.ptr 5 0)), (6, (AV.ptr 6 0)), (7, (qI y.2.1))] [(3, [(AV.list 1 y.2.2.1 none)]), (5, (zK y.2.2.2.1)), (6, [(AV.list 1 y.2.2.2.2 (some 6401572864))])] (ZH 6).2.toks 0)
  | .inr y => (.normal, mkS 120 [(1, (qI y.1)), (3, (AV.ptr 3 0)), (5, (AV.ptr 5 0)), (6, (AV.ptr 6 0))] [(3, [(AV.list 1 y.2.1 none)]), (5, (zK y.2.2.1)), (6, [(AV.list 1 y.2.2.2 (some 6401572864))])] (ZH 6).2.toks 0)
 b := fun u6 α kn ke => (match zpD N (u6.2.1, u6.1) with | some y17 => (match (!y17) with | true => (ke (.inl (u6.1, 6, u6.2.1, u6.2.2.1, ([] : qL)))) | false => (match (u6.2.2.1.1 == 5) with | true => (match zpD N (u6.2.1, u6.2.2.1.2.2.2.1) with | some y18 => (match (!y18) with | true => (ke (.inl (u6.1, 6, u6.2.1, u6.2.2.1, ([] : qL)))) | false => (ke (.inr u6))) | none => none) | false => (ke (.inr u6)))) | none => none)
abbrev zi7 (N : Nat) (x : Int × qL × RT7 × qL) : Option ((Int × Int × qL × RT7 × qL) ⊕ (Int × qL × RT7 × qL)) := (Jz N).L N x
def zaC (N : Nat) : LSpec where
 X := Int × qL × RT7 × qL
 Y := (Int × Int × qL × RT7 × qL) ⊕ (Int × qL × RT7 × qL)
 p := fun s => rdS 120 0 [(1, .int .i64), (3, .ptr 3 0), (5, .ptr 5 0), (6, .ptr 6 0)] [(3, .cells [.lst 1]), (5, .row RK7), (6, .cells [.tok 1 6401572864])] s fun ⟨a0, _, _, _, _⟩ ⟨⟨a1, _⟩, a2, ⟨a3, _⟩, _⟩ => (a0, a1, a2, a3)
 st := fun u2 => mkS 120 [(1, (qI u2.1)), (3, (AV.ptr 3 0)), (5, (AV.ptr 5 0)), (6, (AV.ptr 6 0))] [(3, [(AV.list 1 u2.2.1 none)]), (5, (zK u2.2.2.1)), (6, [(AV.list 1 u2.2.2.2 (some 6401572864))])] (ZH 2).1.toks 0
 out := fun y => match y with
  | .inl y => (.ret, mkS 120 [(1, (qI y.1)), (3, (AV.ptr 3 0)), (5, (AV.ptr 5 0)), (6, (AV.ptr 6 0)), (7, (qI y.2.1))] [(3, [(AV.list 1 y.2.2.1 none)]), (5, (zK y.2.2.2.1)), (6, [(AV.list 1 y.2.2.2.2 (some 6401572864))])] (ZH 2).2.toks 0)
  | .inr y => (.normal, mkS 120 [(1, (qI y.1)), (3, (AV.ptr 3 0)), (5, (AV.ptr 5 0)), (6, (AV.ptr 6 0))] [(3, [(AV.list 1 y.2.1 none)]), (5, (zK y.2.2.1)), (6, [(AV.list 1 y.2.2.2 (some 6401572864))])] (ZH 2).2.toks 0)
 b := fun u2 α kn ke => (match zcZ N u2.2.1 with | some y7 => (match (!y7) with | true => (ke (.inl (u2.1, 1, u2.2.1, u2.2.2.1, ([] : qL)))) | false => (match ztW N u2.2.2.1.2.2.1 with | some y8 => (match (!y8) with | true => (ke (.inl (u2.1, 1, u2.2.1, u2.2.2.1, ([] : qL)))) | false => (match (u2.2.2.1.1 == 3) with | true => (match zls N (zw u2.2.2.1) with | some y9 => (match (!y9) with | true => (ke (.inl (u2.1, 1, u2.2.1, u2.2.2.1, ([] : qL)))) | false => (ke (.inr u2))) | none => none) | false => (ke (.inr u2)))) | none => none)) | none => none)
abbrev zwA (N : Nat) (x : Int × qL × RT7 × qL) : Option ((Int × Int × qL × RT7 × qL) ⊕ (Int × qL × RT7 × qL)) := (zaC N).L N x
def zd8 (N : Nat) : FSpec where
 X := qL × Int × RT7
 Y := qL × Int
 ash := [[some 1], [none], [none, none, none, none, none, none, none, none, none, none, none, none, none, some 9, none, none, none, none, none, none, none, none, none, none, none, none, none, none, none]]
 S := ⟨[[some 1], [none]], [], [], [], []⟩
 pat := fun a b => zj a fun v1 c2 => Z3 v1 fun c3 => zj c3 fun c4 c5 => Z1 1 c4 fun a0 => zR c5 <| zj c2 fun v6 c7 => jQ .i64 v6 fun a1 => zj c7 fun v8 c9 => zxE RK7 v8 fun a2 => zR c9 <| zR b <| some (a0, a1, a2)
 args := fun x => [(AV.agg [(AV.list 1 x.1 none)]), (AV.v (.int .i64 x.2.1)), (AV.agg (zK x.2.2))]
 ret := fun y => ⟨(AV.tup [(AV.agg [(AV.list 1 y.1 none)]), (AV.v (.int .i64 y.2))]), [], none, [], [], [], none⟩
 t := fun x α k => (match zwA N (x.2.1, x.1, x.2.2, ([] : qL)) with | some y10 => (match y10 with | .inl z11 => (k (z11.2.2.2.2, z11.2.1)) | .inr z12 => (match zi7 N z12 with | some y19 => (match y19 with | .inl z20 => (k (z20.2.2.2.2, z20.2.1)) | .inr z21 => (match zsL N (z21.2.1, z21.2.2.1.2.1) with | some y22 => (match (y22 != 0) with | true => (k (([] : qL), y22)) | false => (if 0 <= z21.1 then (match z21.2.1[z21.1.toNat]? with | some c23 => (match zgc c23 with | some e24 => (match zoP N e24.1 with | some y25 => (match zhP N (z21.1, z21.2.1, z21.2.2.1, z21.2.2.2, y25) with | some y32 => (match y32.2.1 with | true => (k (([] : qL), 10)) | false => (if 0 <= y32.1 then (match y32.2.2.1[y32.1.toNat]? with | some c33 => (match (c33.drop 0)[0]? with | some x34 => (match jf 29 x34 with | some l35 => (match ((l35.length : Int) == 100) with | true => (k (([] : qL), 8)) | false => (if 0 <= y32.2.2.2.1.1 /\ y32.2.2.2.1.1 < 7 then (match ((gtab2.map AV.v).drop (y32.2.2.2.1.1.toNat * 1))[0]? with | some x36 => (match x36 with | .v (.bool b37) => (match zou N (y32.1, b37, y32.2.2) with | some y38 => (match zcs N (zw y38.2.2.1) with | some y39 => (match zi8 N y38.2.1 with | some y40 => (if 0 <= y38.1 /\ y38.1 < (y40.1 : Int) then (match (y40.2.1.map (datJ y40.2.2.1 y40.2.2.2))[(((0 + y38.1.toNat) * 1) + 0)]? with | some c41 => (match c41 with | .list n42 l43 (some q44) => (if n42 = 29 /\ q44 = TOB + (((0 + y38.1.toNat) * 1) + 0) /\ y40.2.2.1 <= (((0 + y38.1.toNat) * 1) + 0) /\ (((0 + y38.1.toNat) * 1) + 0) < y40.2.2.2 then (if (l43.length + [(zK (y38.2.2.1.1, y38.2.2.1.2.1, y38.2.2.1.2.2.1, y38.2.2.1.2.2.2.1, y39))].length) * 288 <= zh then (if 0 <= y38.1 /\ y38.1 < (y40.1 : Int) then (if (((0 + y38.1.toNat) * 1) + 0) + 1 <= (y40.2.1.map (datJ y40.2.2.1 y40.2.2.2)).length then (if y40.1 * 1 <= (splice (y40.2.1.map (datJ y40.2.2.1 y40.2.2.2)) (((0 + y38.1.toNat) * 1) + 0) [(AV.list 29 (l43 ++ [(zK (y38.2.2.1.1, y38.2.2.1.2.1, y38.2.2.1.2.2.1, y38.2.2.1.2.2.2.1, y39))]) (some 7424))]).length then (k ((zL ((splice (y40.2.1.map (datJ y40.2.2.1 y40.2.2.2)) (((0 + y38.1.toNat) * 1) + 0) [(AV.list 29 (l43 ++ [(zK (y38.2.2.1.1, y38.2.2.1.2.1, y38.2.2.1.2.2.1, y38.2.2.1.2.2.2.1, y39))]) (some 7424))]).take (y40.1 * 1)) 1 y40.1), 0)) else none) else none) else none) else none) else none) | _ => none) | none => none) else none) | none => none) | none => none) | none => none) | _ => none) | none => none) else none)) | none => none) | none => none) | none => none) else none)) | none => none) | none => none) | none => none) | none => none) else none)) | none => none)) | none => none)) | none => none)
abbrev Jy (N : Nat) (x : qL × Int × RT7) : Option (qL × Int) := (zd8 N).d x
def Jf (N : Nat) : List (Nat × LSpec) := [(2, zaC N), (6, Jz N), (18, jx N), (27, Jq N)]
def zay : Code := Tryz.f47.body.getD .skip
theorem zoz (N : Nat) : Par (Jq N).b := by
 intro x α β kn ke kn' ke' r r' h h1 h2
 revert h
 dsimp only [Jq]
 (repeat' (first | (with_reducible refine ze ?_ ?_) | split)) <;> intro h <;> first | exact h1 _ h | exact h2 _ h | cases h
theorem zkT (N : Nat) : zmd (J2 qP [104, 113]) (zov N) ZH N (Jf N) 27 zay (Jq N) := fun x α kn ke => by kernel_rfl
theorem zkV (N : Nat) : ZE qP ZH N (Jf N) 27 (zc 27 zay) :=
 j9 (zM qP [104, 113]) (zi _) zl ZH N (Jf N) 27 zay (l := []) (by kernel_rfl) an (Jq N) rfl (fun s x hc h => by dsimp only [Jq] at h; exact zI hc h (fun _ _ => rfl) rfl rfl rfl) (zkT N) (zoz N)
theorem zoy (N : Nat) : Par (jx N).b := by
 intro x α β kn ke kn' ke' r r' h h1 h2
 revert h
 dsimp only [jx]
 (repeat' (first | (with_reducible refine ze ?_ ?_) | split)) <;> intro h <;> first | exact h1 _ h | exact h2 _ h | cases h
theorem zkS (N : Nat) : zmd (J2 qP [104, 113]) (zov N) ZH N (Jf N) 18 zay (jx N) := fun x α kn ke => by kernel_rfl
theorem zkU (N : Nat) : ZE qP ZH N (Jf N) 18 (zc 18 zay) :=
 j9 (zM qP [104, 113]) (zi _) zl ZH N (Jf N) 18 zay (l := []) (by kernel_rfl) an (jx N) rfl (fun s x hc h => by dsimp only [jx] at h; exact zI hc h (fun _ _ => rfl) rfl rfl rfl) (zkS N) (zoy N)
theorem zsx (N : Nat) : Par (Jz N).b := by
 intro x α β kn ke kn' ke' r r' h h1 h2
 revert h
 dsimp only [Jz]
 (repeat' (first | (with_reducible refine ze ?_ ?_) | split)) <;> intro h <;> first | exact h1 _ h | exact h2 _ h | cases h
theorem zot (N : Nat) : zmd (J2 qP [104, 113]) (zov N) ZH N (Jf N) 6 zay (Jz N) := fun x α kn ke => by kernel_rfl
theorem zox (N : Nat) : ZE qP ZH N (Jf N) 6 (zc 6 zay) :=
 j9 (zM qP [104, 113]) (zi _) zl ZH N (Jf N) 6 zay (l := []) (by kernel_rfl) an (Jz N) rfl (fun s x hc h => by dsimp only [Jz] at h; exact zI hc h (fun _ _ => rfl) rfl rfl rfl) (zot N) (zsx N)
theorem zsw (N : Nat) : Par (zaC N).b := by
 intro x α β kn ke kn' ke' r r' h h1 h2
 revert h
 dsimp only [zaC]
 (repeat' (first | (with_reducible refine ze ?_ ?_) | split)) <;> intro h <;> first | exact h1 _ h | exact h2 _ h | cases h
theorem zos (N : Nat) : zmd (J2 qP [104, 113]) (zov N) ZH N (Jf N) 2 zay (zaC N) := fun x α kn ke => by kernel_rfl
theorem zow (N : Nat) : ZE qP ZH N (Jf N) 2 (zc 2 zay) :=
 j9 (zM qP [104, 113]) (zi _) zl ZH N (Jf N) 2 zay (l := []) (by kernel_rfl) an (zaC N) rfl (fun s x hc h => by dsimp only [zaC] at h; exact zI hc h (fun _ _ => rfl) rfl rfl rfl) (zos N) (zsw N)
theorem zsy (N : Nat) : Zc (zd8 N).t := by
 intro x α β k k' r r' h h1
 revert h
 dsimp only [zd8]
 (repeat' (first | (with_reducible refine ze ?_ ?_) | split)) <;> intro h <;> first | exact h1 _ h | cases h
theorem zsA (N : Nat) : Ze (J2 qP [104, 113]) (zov N) ZH (lam N (Jf N)) Tryz.f47 (zd8 N) := fun x => by kernel_rfl
theorem zym (N : Nat) (a : List AV) (b : qL) (x : (zd8 N).X) (h : (zd8 N).pat a b = some x) : a = (zd8 N).args x /\ b = (zd8 N).bs x := by
 obtain ⟨v1, c2, rfl, g0⟩ := zb (show zj _ _ = some x from h)
 obtain ⟨c3, rfl, g1⟩ := zO g0; clear g0
 obtain ⟨c4, c5, rfl, g2⟩ := zb g1; clear g1
 obtain ⟨a0, rfl, g3⟩ := zq g2; clear g2
 obtain ⟨rfl, g4⟩ := zg g3; clear g3
 obtain ⟨v6, c7, rfl, g5⟩ := zb g4; clear g4
 obtain ⟨a1, rfl, g6⟩ := zA g5; clear g5
 obtain ⟨v8, c9, rfl, g7⟩ := zb g6; clear g6
 obtain ⟨a2, rfl, g8⟩ := zdN g7; clear g7
 obtain ⟨rfl, g9⟩ := zg g8; clear g8
 obtain ⟨rfl, g10⟩ := zg g9; clear g9
 clear h
 cases g10
 exact ⟨rfl, rfl⟩
def zsv (N : Nat) : Ent qP := zx (zM qP [104, 113]) (zi _) zl 47 Tryz.f47 Tryz.func47 rfl ZH (lam N (Jf N)) (zm (l := [(2, zc 2 zay), (6, zc 6 zay), (18, zc 18 zay), (27, zc 27 zay)]) (al (zow N) (al (zox N) (al (zkU N) (al (zkV N) an)))) (by kernel_rfl)) (zd8 N) (fun _ => ⟨rfl, rfl⟩) (zsA N) (zym N) (zsy N)
def Zk : Nat -> Keep × Keep := anF [(16, ⟨[2, 6, 10, 12, 43, 44], [(11, 1)], [6, 10, 36, 39], [(1, 25), (42, 1)], [((6, 0), 1)], [], [], [36, 39], false, some 36, []⟩, ⟨[2, 6, 8, 10, 12], [(11, 1)], [6, 10, 36, 39], [(1, 25), (7, 1)], [((6, 0), 1)], [], [], [36, 39], false, some 36, []⟩), (27, ⟨[2, 6, 10, 12, 13, 14, 15, 16, 43, 44, 58], [(11, 1)], [6, 10, 16, 36, 39], [(1, 25), (42, 1)], [((6, 0), 1)], [], [], [36, 39], true, some 36, []⟩, ⟨[2, 6, 10, 12, 13, 14, 15, 16, 43, 44], [(11, 1)], [6, 10, 16, 36, 39], [(1, 25), (42, 1)], [((6, 0), 1)], [], [], [36, 39], false, some 36, []⟩), (33, ⟨[2, 6, 10, 12, 13, 14, 15, 16, 43, 44, 81], [(11, 1)], [6, 10, 16, 36, 39], [(1, 25), (42, 1)], [((6, 0), 1)], [], [], [36, 39], true, some 36, []⟩, ⟨[2, 6, 10, 12, 13, 15, 43, 44], [(11, 1)], [6, 10, 36, 39], [(1, 25), (42, 1)], [((6, 0), 1)], [], [], [36, 39], false, some 36, []⟩), (35, ⟨[2, 6, 10, 12, 13, 14, 15, 16, 43, 44], [(11, 1)], [6, 10, 16, 36, 39], [(1, 25), (42, 1)], [((6, 0), 1)], [], [], [36, 39], true, some 36, []⟩, ⟨[2, 6, 10, 12, 13, 14, 15, 43, 44], [(11, 1)], [6, 10, 36, 39], [(1, 25), (42, 1)], [((6, 0), 1)], [], [], [36, 39], false, some 36, []⟩), (46, ⟨[2, 6, 10, 12, 130, 131], [(11, 1)], [6, 10, 39], [(129, 25)], [((6, 0), 1)], [], [((10, 0), 1)], [39], false, none, []⟩, ⟨[6, 10], [(11, 1)], [6, 10], [], [((6, 0), 1)], [], [((10, 0), 1)], [], false, none, []⟩)] [(100035, ([], [((10, 0), 1)]))]
def zkv (N : Nat) : GamK := gam (P := qP) [zrS N, zBh N, zBi N, zwF N, zDB N, zsP N, zBj N, zBk N, zsX N]
def ZD (N : Nat) : LSpec where
 X := qL × qL × Int × Nat × Int × Int × qL × Nat × qA × qA
 Y := (qL × qL × Nat × qA)
 p := fun s => rdS 166 0 [(11, .tok 1 1280000704), (129, .lst 25), (2, .int .i64), (6, .ptr 6 0), (10, .ptr 10 0), (12, .vs0 39 1), (130, .int .i64), (131, .int .i64)] [(6, .cells [.tok 1 6401572864]), (10, .cells [.vs0 2040960 1]), (39, .tt), (2040960, .tt)] s fun ⟨a0, a1, a2, _, _, a3, a4, a5, _⟩ ⟨⟨a6, _⟩, ⟨a7, _⟩, a8, a9, _⟩ => (a0, a1, a2, a3, a4, a5, a6, a7, a8, a9)
 st := fun u46 => mkS 166 [(11, (AV.list 1 u46.1 (some 1280000704))), (129, (AV.list 25 u46.2.1 none)), (2, (qI u46.2.2.1)), (6, (AV.ptr 6 0)), (10, (AV.ptr 10 0)), (12, (AV.vs 39 0 u46.2.2.2.1 1)), (130, (qI u46.2.2.2.2.1)), (131, (qI u46.2.2.2.2.2.1))] [(6, [(AV.list 1 u46.2.2.2.2.2.2.1 (some 6401572864))]), (10, [(AV.vs 2040960 0 u46.2.2.2.2.2.2.2.1 1)]), (39, u46.2.2.2.2.2.2.2.2.1), (2040960, u46.2.2.2.2.2.2.2.2.2)] (Zk 46).1.toks 0
 out := fun y => (.exit 3, mkS 166 [(11, (AV.list 1 y.1 (some 1280000704))), (6, (AV.ptr 6 0)), (10, (AV.ptr 10 0))] [(6, [(AV.list 1 y.2.1 (some 6401572864))]), (10, [(AV.vs 2040960 0 y.2.2.1 1)]), (2040960, y.2.2.2)] (Zk 46).2.toks 0)
 b := fun u46 α kn ke => (match (decide (u46.2.2.2.2.2.1 < u46.2.2.2.2.1)) with | true => (if 0 <= u46.2.2.2.2.2.1 then (match u46.2.1[u46.2.2.2.2.2.1.toNat]? with | some c100 => (match zgT c100 with | some e101 => (if 0 <= u46.2.2.2.2.2.1 /\ u46.2.2.2.2.2.1 < (u46.2.2.2.1 : Int) then (match u46.2.2.2.2.2.2.2.2.1[((0 + u46.2.2.2.2.2.1.toNat) * 1)]? with | some x102 => (match x102 with | .v (.bool b103) => (match (!b103) with | true => (if (u46.1.length + [[(AV.v (.int .i64 ((u46.2.2.2.2.2.2.2.1 : Nat) : Int)))]].length) * 8 <= zh then (match zcs N e101 with | some y104 => (if u46.2.2.2.2.2.2.2.1 * 1 <= u46.2.2.2.2.2.2.2.2.2.length /\ (u46.2.2.2.2.2.2.2.1 + [[(AV.list 29 [(zK (1, u46.2.2.1, (⟨#[]⟩ : ByteArray), 0, y104))] none)]].length) * 24 <= zh then (kn ((u46.1 ++ [[(AV.v (.int .i64 ((u46.2.2.2.2.2.2.2.1 : Nat) : Int)))]]), u46.2.1, u46.2.2.1, u46.2.2.2.1, u46.2.2.2.2.1, (i64 (u46.2.2.2.2.2.1 + 1)), u46.2.2.2.2.2.2.1, (u46.2.2.2.2.2.2.2.1 + [[(AV.list 29 [(zK (1, u46.2.2.1, (⟨#[]⟩ : ByteArray), 0, y104))] none)]].length), (u46.2.2.2.2.2.2.2.2.1.map dat0), ((u46.2.2.2.2.2.2.2.2.2.take (u46.2.2.2.2.2.2.2.1 * 1) ++ [[(AV.list 29 [(zK (1, u46.2.2.1, (⟨#[]⟩ : ByteArray), 0, y104))] none)]].flatten).map dat0))) else none) | none => none) else none) | false => (kn (u46.1, u46.2.1, u46.2.2.1, u46.2.2.2.1, u46.2.2.2.2.1, (i64 (u46.2.2.2.2.2.1 + 1)), u46.2.2.2.2.2.2.1, u46.2.2.2.2.2.2.2.1, (u46.2.2.2.2.2.2.2.2.1.map dat0), (u46.2.2.2.2.2.2.2.2.2.map dat0)))) | _ => none) | none => none) else none) | none => none) | none => none) else none) | false => (ke (u46.1, u46.2.2.2.2.2.2.1, u46.2.2.2.2.2.2.2.1, (u46.2.2.2.2.2.2.2.2.2.map dat0))))
abbrev znD (N : Nat) (x : qL × qL × Int × Nat × Int × Int × qL × Nat × qA × qA) : Option ((qL × qL × Nat × qA)) := (ZD N).L N x
def ju (N : Nat) : LSpec where
 X := qL × qL × qL × Int × Nat × Int × Int × Nat × Int × Int × qL × Nat × RT7 × qA × qA × Nat × Nat
 Y := (qL × qL × qL × Int × Nat × Int × Int × Nat × Int × Int × qL × Nat × qA × qA × Nat × Nat) ⊕ (qL × qL × qL × Int × Nat × Int × Int × Nat × Int × Int × qL × Nat × qA × qA × Nat × Nat)
 p := fun s => rdF 166 0 36 [(11, .tok 1 1280000704), (1, .lst 25), (42, .lst 1), (2, .int .i64), (6, .ptr 6 0), (10, .ptr 10 0), (12, .vs0 39 1), (13, .int .i64), (14, .int .i64), (15, .ptrV 36), (16, .ptr 16 0), (43, .int .i64), (44, .int .i64)] [(6, .cells [.tok 1 6401572864]), (10, .cells [.vs0 36 1]), (16, .row RK7), (36, .tt), (39, .tt)] s fun ⟨a0, a1, a2, a3, _, _, a4, a5, a6, a7, _, a8, a9, _⟩ ⟨⟨a10, _⟩, ⟨a11, _⟩, a12, a13, a14, _⟩ a15 a16 => (a0, a1, a2, a3, a4, a5, a6, a7, a8, a9, a10, a11, a12, a13, a14, a15, a16)
 st := fun u35 => mkF 166 [(11, (AV.list 1 u35.1 (some 1280000704))), (1, (AV.list 25 u35.2.1 none)), (42, (AV.list 1 u35.2.2.1 none)), (2, (qI u35.2.2.2.1)), (6, (AV.ptr 6 0)), (10, (AV.ptr 10 0)), (12, (AV.vs 39 0 u35.2.2.2.2.1 1)), (13, (qI u35.2.2.2.2.2.1)), (14, (qI u35.2.2.2.2.2.2.1)), (15, (AV.ptr 36 u35.2.2.2.2.2.2.2.1)), (16, (AV.ptr 16 0)), (43, (qI u35.2.2.2.2.2.2.2.2.1)), (44, (qI u35.2.2.2.2.2.2.2.2.2.1))] [(6, [(AV.list 1 u35.2.2.2.2.2.2.2.2.2.2.1 (some 6401572864))]), (10, [(AV.vs 36 0 u35.2.2.2.2.2.2.2.2.2.2.2.1 1)]), (16, (zK u35.2.2.2.2.2.2.2.2.2.2.2.2.1)), (36, u35.2.2.2.2.2.2.2.2.2.2.2.2.2.1), (39, u35.2.2.2.2.2.2.2.2.2.2.2.2.2.2.1)] (Zk 35).1.toks 0 (some (36, u35.2.2.2.2.2.2.2.2.2.2.2.2.2.2.2.1, u35.2.2.2.2.2.2.2.2.2.2.2.2.2.2.2.2))
 out := fun y => match y with
  | .inl y => (.exit 1, mkF 166 [(11, (AV.list 1 y.1 (some 1280000704))), (1, (AV.list 25 y.2.1 none)), (42, (AV.list 1 y.2.2.1 none)), (2, (qI y.2.2.2.1)), (6, (AV.ptr 6 0)), (10, (AV.ptr 10 0)), (12, (AV.vs 39 0 y.2.2.2.2.1 1)), (13, (qI y.2.2.2.2.2.1)), (14, (qI y.2.2.2.2.2.2.1)), (15, (AV.ptr 36 y.2.2.2.2.2.2.2.1)), (43, (qI y.2.2.2.2.2.2.2.2.1)), (44, (qI y.2.2.2.2.2.2.2.2.2.1))] [(6, [(AV.list 1 y.2.2.2.2.2.2.2.2.2.2.1 (some 6401572864))]), (10, [(AV.vs 36 0 y.2.2.2.2.2.2.2.2.2.2.2.1 1)]), (36, y.2.2.2.2.2.2.2.2.2.2.2.2.1), (39, y.2.2.2.2.2.2.2.2.2.2.2.2.2.1)] (Zk 35).2.toks 0 (some (36, y.2.2.2.2.2.2.2.2.2.2.2.2.2.2.1, y.2.2.2.2.2.2.2.2.2.2.2.2.2.2.2)))
  | .inr y => (.normal, mkF 166 [(11, (AV.list 1 y.1 (some 1280000704))), (1, (AV.list 25 y.2.1 none)), (42, (AV.list 1 y.2.2.1 none)), (2, (qI y.2.2.2.1)), (6, (AV.ptr 6 0)), (10, (AV.ptr 10 0)), (12, (AV.vs 39 0 y.2.2.2.2.1 1)), (13, (qI y.2.2.2.2.2.1)), (14, (qI y.2.2.2.2.2.2.1)), (15, (AV.ptr 36 y.2.2.2.2.2.2.2.1)), (43, (qI y.2.2.2.2.2.2.2.2.1)), (44, (qI y.2.2.2.2.2.2.2.2.2.1))] [(6, [(AV.list 1 y.2.2.2.2.2.2.2.2.2.2.1 (some 6401572864))]), (10, [(AV.vs 36 0 y.2.2.2.2.2.2.2.2.2.2.2.1 1)]), (36, y.2.2.2.2.2.2.2.2.2.2.2.2.1), (39, y.2.2.2.2.2.2.2.2.2.2.2.2.2.1)] (Zk 35).2.toks 0 (some (36, y.2.2.2.2.2.2.2.2.2.2.2.2.2.2.1, y.2.2.2.2.2.2.2.2.2.2.2.2.2.2.2)))
 b := fun u35 α kn ke => (if 0 <= u35.2.2.2.2.2.2.2.2.2.2.2.2.1.1 /\ u35.2.2.2.2.2.2.2.2.2.2.2.2.1.1 < 7 then (match ((gtab0.map AV.v).drop (u35.2.2.2.2.2.2.2.2.2.2.2.2.1.1.toNat * 1))[0]? with | some x24 => (match x24 with | .v (.bool b25) => (match b25 with | true => (if 0 <= u35.2.2.2.2.2.2.1 then (match u35.2.1[u35.2.2.2.2.2.2.1.toNat]? with | some c26 => (match zgT c26 with | some e27 => (match zk4 N ((zw u35.2.2.2.2.2.2.2.2.2.2.2.2.1), e27) with | some y28 => (match y28 with | true => (ke (.inl (u35.1, u35.2.1, u35.2.2.1, u35.2.2.2.1, u35.2.2.2.2.1, u35.2.2.2.2.2.1, u35.2.2.2.2.2.2.1, u35.2.2.2.2.2.2.2.1, u35.2.2.2.2.2.2.2.2.1, u35.2.2.2.2.2.2.2.2.2.1, u35.2.2.2.2.2.2.2.2.2.2.1, u35.2.2.2.2.2.2.2.2.2.2.2.1, (u35.2.2.2.2.2.2.2.2.2.2.2.2.2.1.map datF), (u35.2.2.2.2.2.2.2.2.2.2.2.2.2.2.1.map dat0), u35.2.2.2.2.2.2.2.2.2.2.2.2.2.2.2))) | false => (ke (.inr (u35.1, u35.2.1, u35.2.2.1, u35.2.2.2.1, u35.2.2.2.2.1, u35.2.2.2.2.2.1, u35.2.2.2.2.2.2.1, u35.2.2.2.2.2.2.2.1, u35.2.2.2.2.2.2.2.2.1, u35.2.2.2.2.2.2.2.2.2.1, u35.2.2.2.2.2.2.2.2.2.2.1, u35.2.2.2.2.2.2.2.2.2.2.2.1, (u35.2.2.2.2.2.2.2.2.2.2.2.2.2.1.map datF), (u35.2.2.2.2.2.2.2.2.2.2.2.2.2.2.1.map dat0), u35.2.2.2.2.2.2.2.2.2.2.2.2.2.2.2)))) | none => none) | none => none) | none => none) else none) | false => (ke (.inr (u35.1, u35.2.1, u35.2.2.1, u35.2.2.2.1, u35.2.2.2.2.1, u35.2.2.2.2.2.1, u35.2.2.2.2.2.2.1, u35.2.2.2.2.2.2.2.1, u35.2.2.2.2.2.2.2.2.1, u35.2.2.2.2.2.2.2.2.2.1, u35.2.2.2.2.2.2.2.2.2.2.1, u35.2.2.2.2.2.2.2.2.2.2.2.1, (u35.2.2.2.2.2.2.2.2.2.2.2.2.2.1.map datF), (u35.2.2.2.2.2.2.2.2.2.2.2.2.2.2.1.map dat0), u35.2.2.2.2.2.2.2.2.2.2.2.2.2.2.2)))) | _ => none) | none => none) else none)
abbrev zfo (N : Nat) (x : qL × qL × qL × Int × Nat × Int × Int × Nat × Int × Int × qL × Nat × RT7 × qA × qA × Nat × Nat) : Option ((qL × qL × qL × Int × Nat × Int × Int × Nat × Int × Int × qL × Nat × qA × qA × Nat × Nat) ⊕ (qL × qL × qL × Int × Nat × Int × Int × Nat × Int × Int × qL × Nat × qA × qA × Nat × Nat)) := (ju N).L N x
def ji (N : Nat) : LSpec where
 X := qL × qL × qL × Int × Nat × Int × Int × Nat × Int × Int × Bool × qL × Nat × RT7 × qA × qA × Nat × Nat
 Y := (qL × qL × qL × Int × Nat × Int × Nat × Int × Int × qL × Nat × qA × qA × Nat × Nat) ⊕ (qL × qL × qL × Int × Nat × Int × Nat × Int × Int × qL × Nat × qA × qA × Nat × Nat)
 p := fun s => rdF 166 0 36 [(11, .tok 1 1280000704), (1, .lst 25), (42, .lst 1), (2, .int .i64), (6, .ptr 6 0), (10, .ptr 10 0), (12, .vs0 39 1), (13, .int .i64), (14, .int .i64), (15, .ptrV 36), (16, .ptr 16 0), (43, .int .i64), (44, .int .i64), (81, .bool)] [(6, .cells [.tok 1 6401572864]), (10, .cells [.vs0 36 1]), (16, .row RK7), (36, .tt), (39, .tt)] s fun ⟨a0, a1, a2, a3, _, _, a4, a5, a6, a7, _, a8, a9, a10, _⟩ ⟨⟨a11, _⟩, ⟨a12, _⟩, a13, a14, a15, _⟩ a16 a17 => (a0, a1, a2, a3, a4, a5, a6, a7, a8, a9, a10, a11, a12, a13, a14, a15, a16, a17)
 st := fun u33 => mkF 166 [(11, (AV.list 1 u33.1 (some 1280000704))), (1, (AV.list 25 u33.2.1 none)), (42, (AV.list 1 u33.2.2.1 none)), (2, (qI u33.2.2.2.1)), (6, (AV.ptr 6 0)), (10, (AV.ptr 10 0)), (12, (AV.vs 39 0 u33.2.2.2.2.1 1)), (13, (qI u33.2.2.2.2.2.1)), (14, (qI u33.2.2.2.2.2.2.1)), (15, (AV.ptr 36 u33.2.2.2.2.2.2.2.1)), (16, (AV.ptr 16 0)), (43, (qI u33.2.2.2.2.2.2.2.2.1)), (44, (qI u33.2.2.2.2.2.2.2.2.2.1)), (81, (AV.v (.bool u33.2.2.2.2.2.2.2.2.2.2.1)))] [(6, [(AV.list 1 u33.2.2.2.2.2.2.2.2.2.2.2.1 (some 6401572864))]), (10, [(AV.vs 36 0 u33.2.2.2.2.2.2.2.2.2.2.2.2.1 1)]), (16, (zK u33.2.2.2.2.2.2.2.2.2.2.2.2.2.1)), (36, u33.2.2.2.2.2.2.2.2.2.2.2.2.2.2.1), (39, u33.2.2.2.2.2.2.2.2.2.2.2.2.2.2.2.1)] (Zk 33).1.toks 0 (some (36, u33.2.2.2.2.2.2.2.2.2.2.2.2.2.2.2.2.1, u33.2.2.2.2.2.2.2.2.2.2.2.2.2.2.2.2.2))
 out := fun y => match y with
  | .inl y => (.exit 1, mkF 166 [(11, (AV.list 1 y.1 (some 1280000704))), (1, (AV.list 25 y.2.1 none)), (42, (AV.list 1 y.2.2.1 none)), (2, (qI y.2.2.2.1)), (6, (AV.ptr 6 0)), (10, (AV.ptr 10 0)), (12, (AV.vs 39 0 y.2.2.2.2.1 1)), (13, (qI y.2.2.2.2.2.1)), (15, (AV.ptr 36 y.2.2.2.2.2.2.1)), (43, (qI y.2.2.2.2.2.2.2.1)), (44, (qI y.2.2.2.2.2.2.2.2.1))] [(6, [(AV.list 1 y.2.2.2.2.2.2.2.2.2.1 (some 6401572864))]), (10, [(AV.vs 36 0 y.2.2.2.2.2.2.2.2.2.2.1 1)]), (36, y.2.2.2.2.2.2.2.2.2.2.2.1), (39, y.2.2.2.2.2.2.2.2.2.2.2.2.1)] (Zk 33).2.toks 0 (some (36, y.2.2.2.2.2.2.2.2.2.2.2.2.2.1, y.2.2.2.2.2.2.2.2.2.2.2.2.2.2)))
  | .inr y => (.normal, mkF 166 [(11, (AV.list 1 y.1 (some 1280000704))), (1, (AV.list 25 y.2.1 none)), (42, (AV.list 1 y.2.2.1 none)), (2, (qI y.2.2.2.1)), (6, (AV.ptr 6 0)), (10, (AV.ptr 10 0)), (12, (AV.vs 39 0 y.2.2.2.2.1 1)), (13, (qI y.2.2.2.2.2.1)), (15, (AV.ptr 36 y.2.2.2.2.2.2.1)), (43, (qI y.2.2.2.2.2.2.2.1)), (44, (qI y.2.2.2.2.2.2.2.2.1))] [(6, [(AV.list 1 y.2.2.2.2.2.2.2.2.2.1 (some 6401572864))]), (10, [(AV.vs 36 0 y.2.2.2.2.2.2.2.2.2.2.1 1)]), (36, y.2.2.2.2.2.2.2.2.2.2.2.1), (39, y.2.2.2.2.2.2.2.2.2.2.2.2.1)] (Zk 33).2.toks 0 (some (36, y.2.2.2.2.2.2.2.2.2.2.2.2.2.1, y.2.2.2.2.2.2.2.2.2.2.2.2.2.2)))
 b := fun u33 α kn ke => (match u33.2.2.2.2.2.2.2.2.2.2.1 with | true => (match zfo N (u33.1, u33.2.1, u33.2.2.1, u33.2.2.2.1, u33.2.2.2.2.1, u33.2.2.2.2.2.1, u33.2.2.2.2.2.2.1, u33.2.2.2.2.2.2.2.1, u33.2.2.2.2.2.2.2.2.1, u33.2.2.2.2.2.2.2.2.2.1, u33.2.2.2.2.2.2.2.2.2.2.2.1, u33.2.2.2.2.2.2.2.2.2.2.2.2.1, u33.2.2.2.2.2.2.2.2.2.2.2.2.2.1, (u33.2.2.2.2.2.2.2.2.2.2.2.2.2.2.1.map datF), (u33.2.2.2.2.2.2.2.2.2.2.2.2.2.2.2.1.map dat0), u33.2.2.2.2.2.2.2.2.2.2.2.2.2.2.2.2) with | some y59 => (match y59 with | .inl z60 => (ke (.inl (z60.1, z60.2.1, z60.2.2.1, z60.2.2.2.1, z60.2.2.2.2.1, z60.2.2.2.2.2.1, z60.2.2.2.2.2.2.2.1, z60.2.2.2.2.2.2.2.2.1, z60.2.2.2.2.2.2.2.2.2.1, z60.2.2.2.2.2.2.2.2.2.2.1, z60.2.2.2.2.2.2.2.2.2.2.2.1, (z60.2.2.2.2.2.2.2.2.2.2.2.2.1.map datF), (z60.2.2.2.2.2.2.2.2.2.2.2.2.2.1.map dat0), z60.2.2.2.2.2.2.2.2.2.2.2.2.2.2))) | .inr z61 => (match z61.2.2.2.2.2.2.2.2.2.2.2.2.1[(z61.2.2.2.2.2.2.2.1 + 0)]? with | some c62 => (match c62 with | .list n63 l64 (some q65) => (if n63 = 29 /\ q65 = TOB + (z61.2.2.2.2.2.2.2.1 + 0) /\ z61.2.2.2.2.2.2.2.2.2.2.2.2.2.2.1 <= (z61.2.2.2.2.2.2.2.1 + 0) /\ (z61.2.2.2.2.2.2.2.1 + 0) < z61.2.2.2.2.2.2.2.2.2.2.2.2.2.2.2 then (if 0 <= z61.2.2.2.2.2.2.1 then (match z61.2.1[z61.2.2.2.2.2.2.1.toNat]? with | some c66 => (match zgT c66 with | some e67 => (match zcs N e67 with | some y68 => (if (l64.length + [(zK (1, z61.2.2.2.1, (⟨#[]⟩ : ByteArray), 0, y68))].length) * 288 <= zh then (if (z61.2.2.2.2.2.2.2.1 + 0) + 1 <= z61.2.2.2.2.2.2.2.2.2.2.2.2.1.length then (ke (.inr (z61.1, z61.2.1, z61.2.2.1, z61.2.2.2.1, z61.2.2.2.2.1, z61.2.2.2.2.2.1, z61.2.2.2.2.2.2.2.1, z61.2.2.2.2.2.2.2.2.1, z61.2.2.2.2.2.2.2.2.2.1, z61.2.2.2.2.2.2.2.2.2.2.1, z61.2.2.2.2.2.2.2.2.2.2.2.1, ((splice z61.2.2.2.2.2.2.2.2.2.2.2.2.1 (z61.2.2.2.2.2.2.2.1 + 0) [(AV.list 29 (l64 ++ [(zK (1, z61.2.2.2.1, (⟨#[]⟩ : ByteArray), 0, y68))]) (some 7040))]).map datF), (z61.2.2.2.2.2.2.2.2.2.2.2.2.2.1.map dat0), ((z61.2.2.2.2.2.2.2.1 + 0) + 1), z61.2.2.2.2.2.2.2.2.2.2.2.2.2.2.2))) else none) else none) | none => none) | none => none) | none => none) else none) else none) | _ => none) | none => none)) | none => none) | false => (match (u33.2.2.2.2.2.2.2.2.2.2.2.2.2.1.1 == 2) with | true => (ke (.inl (u33.1, u33.2.1, u33.2.2.1, u33.2.2.2.1, u33.2.2.2.2.1, u33.2.2.2.2.2.1, u33.2.2.2.2.2.2.2.1, u33.2.2.2.2.2.2.2.2.1, u33.2.2.2.2.2.2.2.2.2.1, u33.2.2.2.2.2.2.2.2.2.2.2.1, u33.2.2.2.2.2.2.2.2.2.2.2.2.1, (u33.2.2.2.2.2.2.2.2.2.2.2.2.2.2.1.map datF), (u33.2.2.2.2.2.2.2.2.2.2.2.2.2.2.2.1.map dat0), u33.2.2.2.2.2.2.2.2.2.2.2.2.2.2.2.2))) | false => (match u33.2.2.2.2.2.2.2.2.2.2.2.2.2.2.1[(u33.2.2.2.2.2.2.2.1 + 0)]? with | some c69 => (match c69 with | .list n70 l71 (some q72) => (if n70 = 29 /\ q72 = TOB + (u33.2.2.2.2.2.2.2.1 + 0) /\ u33.2.2.2.2.2.2.2.2.2.2.2.2.2.2.2.2.1 <= (u33.2.2.2.2.2.2.2.1 + 0) /\ (u33.2.2.2.2.2.2.2.1 + 0) < u33.2.2.2.2.2.2.2.2.2.2.2.2.2.2.2.2.2 then (match zcs N (zw u33.2.2.2.2.2.2.2.2.2.2.2.2.2.1) with | some y73 => (if (l71.length + [(zK (2, u33.2.2.2.1, (⟨#[]⟩ : ByteArray), 0, y73))].length) * 288 <= zh then (if (u33.2.2.2.2.2.2.2.1 + 0) + 1 <= u33.2.2.2.2.2.2.2.2.2.2.2.2.2.2.1.length then (ke (.inr (u33.1, u33.2.1, u33.2.2.1, u33.2.2.2.1, u33.2.2.2.2.1, u33.2.2.2.2.2.1, u33.2.2.2.2.2.2.2.1, u33.2.2.2.2.2.2.2.2.1, u33.2.2.2.2.2.2.2.2.2.1, u33.2.2.2.2.2.2.2.2.2.2.2.1, u33.2.2.2.2.2.2.2.2.2.2.2.2.1, ((splice u33.2.2.2.2.2.2.2.2.2.2.2.2.2.2.1 (u33.2.2.2.2.2.2.2.1 + 0) [(AV.list 29 (l71 ++ [(zK (2, u33.2.2.2.1, (⟨#[]⟩ : ByteArray), 0, y73))]) (some 4672))]).map datF), (u33.2.2.2.2.2.2.2.2.2.2.2.2.2.2.2.1.map dat0), ((u33.2.2.2.2.2.2.2.1 + 0) + 1), u33.2.2.2.2.2.2.2.2.2.2.2.2.2.2.2.2.2))) else none) else none) | none => none) else none) | _ => none) | none => none)))
abbrev zfn (N : Nat) (x : qL × qL × qL × Int × Nat × Int × Int × Nat × Int × Int × Bool × qL × Nat × RT7 × qA × qA × Nat × Nat) : Option ((qL × qL × qL × Int × Nat × Int × Nat × Int × Int × qL × Nat × qA × qA × Nat × Nat) ⊕ (qL × qL × qL × Int × Nat × Int × Nat × Int × Int × qL × Nat × qA × qA × Nat × Nat)) := (ji N).L N x
def Jo (N : Nat) : LSpec where
 X := qL × qL × qL × Int × Nat × Int × Int × Nat × Int × Int × Bool × qL × Nat × RT7 × qA × qA × Nat × Nat
 Y := (qL × qL × qL × Int × Nat × Int × Int × Nat × Int × Int × qL × Nat × RT7 × qA × qA × Nat × Nat)
 p := fun s => rdF 166 0 36 [(11, .tok 1 1280000704), (1, .lst 25), (42, .lst 1), (2, .int .i64), (6, .ptr 6 0), (10, .ptr 10 0), (12, .vs0 39 1), (13, .int .i64), (14, .int .i64), (15, .ptrV 36), (16, .ptr 16 0), (43, .int .i64), (44, .int .i64), (58, .bool)] [(6, .cells [.tok 1 6401572864]), (10, .cells [.vs0 36 1]), (16, .row RK7), (36, .tt), (39, .tt)] s fun ⟨a0, a1, a2, a3, _, _, a4, a5, a6, a7, _, a8, a9, a10, _⟩ ⟨⟨a11, _⟩, ⟨a12, _⟩, a13, a14, a15, _⟩ a16 a17 => (a0, a1, a2, a3, a4, a5, a6, a7, a8, a9, a10, a11, a12, a13, a14, a15, a16, a17)
 st := fun u27 => mkF 166 [(11, (AV.list 1 u27.1 (some 1280000704))), (1, (AV.list 25 u27.2.1 none)), (42, (AV.list 1 u27.2.2.1 none)), (2, (qI u27.2.2.2.1)), (6, (AV.ptr 6 0)), (10, (AV.ptr 10 0)), (12, (AV.vs 39 0 u27.2.2.2.2.1 1)), (13, (qI u27.2.2.2.2.2.1)), (14, (qI u27.2.2.2.2.2.2.1)), (15, (AV.ptr 36 u27.2.2.2.2.2.2.2.1)), (16, (AV.ptr 16 0)), (43, (qI u27.2.2.2.2.2.2.2.2.1)), (44, (qI u27.2.2.2.2.2.2.2.2.2.1)), (58, (AV.v (.bool u27.2.2.2.2.2.2.2.2.2.2.1)))] [(6, [(AV.list 1 u27.2.2.2.2.2.2.2.2.2.2.2.1 (some 6401572864))]), (10, [(AV.vs 36 0 u27.2.2.2.2.2.2.2.2.2.2.2.2.1 1)]), (16, (zK u27.2.2.2.2.2.2.2.2.2.2.2.2.2.1)), (36, u27.2.2.2.2.2.2.2.2.2.2.2.2.2.2.1), (39, u27.2.2.2.2.2.2.2.2.2.2.2.2.2.2.2.1)] (Zk 27).1.toks 0 (some (36, u27.2.2.2.2.2.2.2.2.2.2.2.2.2.2.2.2.1, u27.2.2.2.2.2.2.2.2.2.2.2.2.2.2.2.2.2))
 out := fun y => (.normal, mkF 166 [(11, (AV.list 1 y.1 (some 1280000704))), (1, (AV.list 25 y.2.1 none)), (42, (AV.list 1 y.2.2.1 none)), (2, (qI y.2.2.2.1)), (6, (AV.ptr 6 0)), (10, (AV.ptr 10 0)), (12, (AV.vs 39 0 y.2.2.2.2.1 1)), (13, (qI y.2.2.2.2.2.1)), (14, (qI y.2.2.2.2.2.2.1)), (15, (AV.ptr 36 y.2.2.2.2.2.2.2.1)), (16, (AV.ptr 16 0)), (43, (qI y.2.2.2.2.2.2.2.2.1)), (44, (qI y.2.2.2.2.2.2.2.2.2.1))] [(6, [(AV.list 1 y.2.2.2.2.2.2.2.2.2.2.1 (some 6401572864))]), (10, [(AV.vs 36 0 y.2.2.2.2.2.2.2.2.2.2.2.1 1)]), (16, (zK y.2.2.2.2.2.2.2.2.2.2.2.2.1)), (36, y.2.2.2.2.2.2.2.2.2.2.2.2.2.1), (39, y.2.2.2.2.2.2.2.2.2.2.2.2.2.2.1)] (Zk 27).2.toks 0 (some (36, y.2.2.2.2.2.2.2.2.2.2.2.2.2.2.2.1, y.2.2.2.2.2.2.2.2.2.2.2.2.2.2.2.2)))
 b := fun u27 α kn ke => (match u27.2.2.2.2.2.2.2.2.2.2.1 with | true => (if 0 <= u27.2.2.2.2.2.2.1 /\ u27.2.2.2.2.2.2.1 < (u27.2.2.2.2.1 : Int) then (if ((0 + u27.2.2.2.2.2.2.1.toNat) * 1) + 1 <= u27.2.2.2.2.2.2.2.2.2.2.2.2.2.2.2.1.length then (ke (u27.1, u27.2.1, u27.2.2.1, u27.2.2.2.1, u27.2.2.2.2.1, u27.2.2.2.2.2.1, u27.2.2.2.2.2.2.1, u27.2.2.2.2.2.2.2.1, u27.2.2.2.2.2.2.2.2.1, u27.2.2.2.2.2.2.2.2.2.1, u27.2.2.2.2.2.2.2.2.2.2.2.1, u27.2.2.2.2.2.2.2.2.2.2.2.2.1, u27.2.2.2.2.2.2.2.2.2.2.2.2.2.1, (u27.2.2.2.2.2.2.2.2.2.2.2.2.2.2.1.map datF), ((splice u27.2.2.2.2.2.2.2.2.2.2.2.2.2.2.2.1 ((0 + u27.2.2.2.2.2.2.1.toNat) * 1) [(AV.v (.bool true))]).map dat0), u27.2.2.2.2.2.2.2.2.2.2.2.2.2.2.2.2)) else none) else none) | false => (ke (u27.1, u27.2.1, u27.2.2.1, u27.2.2.2.1, u27.2.2.2.2.1, u27.2.2.2.2.2.1, u27.2.2.2.2.2.2.1, u27.2.2.2.2.2.2.2.1, u27.2.2.2.2.2.2.2.2.1, u27.2.2.2.2.2.2.2.2.2.1, u27.2.2.2.2.2.2.2.2.2.2.2.1, u27.2.2.2.2.2.2.2.2.2.2.2.2.1, u27.2.2.2.2.2.2.2.2.2.2.2.2.2.1, (u27.2.2.2.2.2.2.2.2.2.2.2.2.2.2.1.map datF), (u27.2.2.2.2.2.2.2.2.2.2.2.2.2.2.2.1.map dat0), u27.2.2.2.2.2.2.2.2.2.2.2.2.2.2.2.2)))
abbrev znC (N : Nat) (x : qL × qL × qL × Int × Nat × Int × Int × Nat × Int × Int × Bool × qL × Nat × RT7 × qA × qA × Nat × Nat) : Option ((qL × qL × qL × Int × Nat × Int × Int × Nat × Int × Int × qL × Nat × RT7 × qA × qA × Nat × Nat)) := (Jo N).L N x
def zZ (N : Nat) : LSpec where
 X := qL × qL × qL × Int × Nat × Int × Int × qL × Nat × qA × qA × Nat × Nat
 Y := (qL × qL × qL × Int × Int × Nat × qL × Nat × qA × qA × Nat × Nat) ⊕ (qL × qL × Int × Nat × qL × Nat × qA × qA × Nat × Nat)
 p := fun s => rdF 166 0 36 [(11, .tok 1 1280000704), (1, .lst 25), (42, .lst 1), (2, .int .i64), (6, .ptr 6 0), (10, .ptr 10 0), (12, .vs0 39 1), (43, .int .i64), (44, .int .i64)] [(6, .cells [.tok 1 6401572864]), (10, .cells [.vs0 36 1]), (36, .tt), (39, .tt)] s fun ⟨a0, a1, a2, a3, _, _, a4, a5, a6, _⟩ ⟨⟨a7, _⟩, ⟨a8, _⟩, a9, a10, _⟩ a11 a12 => (a0, a1, a2, a3, a4, a5, a6, a7, a8, a9, a10, a11, a12)
 st := fun u16 => mkF 166 [(11, (AV.list 1 u16.1 (some 1280000704))), (1, (AV.list 25 u16.2.1 none)), (42, (AV.list 1 u16.2.2.1 none)), (2, (qI u16.2.2.2.1)), (6, (AV.ptr 6 0)), (10, (AV.ptr 10 0)), (12, (AV.vs 39 0 u16.2.2.2.2.1 1)), (43, (qI u16.2.2.2.2.2.1)), (44, (qI u16.2.2.2.2.2.2.1))] [(6, [(AV.list 1 u16.2.2.2.2.2.2.2.1 (some 6401572864))]), (10, [(AV.vs 36 0 u16.2.2.2.2.2.2.2.2.1 1)]), (36, u16.2.2.2.2.2.2.2.2.2.1), (39, u16.2.2.2.2.2.2.2.2.2.2.1)] (Zk 16).1.toks 0 (some (36, u16.2.2.2.2.2.2.2.2.2.2.2.1, u16.2.2.2.2.2.2.2.2.2.2.2.2))
 out := fun y => match y with
  | .inl y => (.ret, mkF 166 [(11, (AV.list 1 y.1 (some 1280000704))), (1, (AV.list 25 y.2.1 none)), (7, (AV.list 1 y.2.2.1 none)), (2, (qI y.2.2.2.1)), (6, (AV.ptr 6 0)), (8, (qI y.2.2.2.2.1)), (10, (AV.ptr 10 0)), (12, (AV.vs 39 0 y.2.2.2.2.2.1 1))] [(6, [(AV.list 1 y.2.2.2.2.2.2.1 (some 6401572864))]), (10, [(AV.vs 36 0 y.2.2.2.2.2.2.2.1 1)]), (36, y.2.2.2.2.2.2.2.2.1), (39, y.2.2.2.2.2.2.2.2.2.1)] (Zk 16).2.toks 0 (some (36, y.2.2.2.2.2.2.2.2.2.2.1, y.2.2.2.2.2.2.2.2.2.2.2)))
  | .inr y => (.exit 0, mkF 166 [(11, (AV.list 1 y.1 (some 1280000704))), (1, (AV.list 25 y.2.1 none)), (2, (qI y.2.2.1)), (6, (AV.ptr 6 0)), (10, (AV.ptr 10 0)), (12, (AV.vs 39 0 y.2.2.2.1 1))] [(6, [(AV.list 1 y.2.2.2.2.1 (some 6401572864))]), (10, [(AV.vs 36 0 y.2.2.2.2.2.1 1)]), (36, y.2.2.2.2.2.2.1), (39, y.2.2.2.2.2.2.2.1)] (Zk 16).2.toks 0 (some (36, y.2.2.2.2.2.2.2.2.1, y.2.2.2.2.2.2.2.2.2)))
 b := fun u16 α kn ke => (match (decide (u16.2.2.2.2.2.2.1 < u16.2.2.2.2.2.1)) with | true => (if 0 <= u16.2.2.2.2.2.2.1 then (match u16.2.2.1[u16.2.2.2.2.2.2.1.toNat]? with | some c79 => (match c79[0]? with | some x80 => (match x80 with | .v (.int q82 n81) => (if q82 = .i64 then (if 0 <= u16.2.2.2.2.2.2.1 /\ u16.2.2.2.2.2.2.1 < (u16.2.2.2.2.2.2.2.2.1 : Int) then (match zgc (u16.2.2.2.2.2.2.2.2.2.1.drop ((0 + u16.2.2.2.2.2.2.1.toNat) * 1)) with | some e83 => (match zoP N e83.1 with | some y84 => (match znC N (u16.1, u16.2.1, u16.2.2.1, u16.2.2.2.1, u16.2.2.2.2.1, u16.2.2.2.2.2.2.1, n81, ((0 + u16.2.2.2.2.2.2.1.toNat) * 1), u16.2.2.2.2.2.1, u16.2.2.2.2.2.2.1, (decide (n81 >= 0)), u16.2.2.2.2.2.2.2.1, u16.2.2.2.2.2.2.2.2.1, y84, (u16.2.2.2.2.2.2.2.2.2.1.map datF), (u16.2.2.2.2.2.2.2.2.2.2.1.map dat0), u16.2.2.2.2.2.2.2.2.2.2.2) with | some y85 => (match zsS N y85.2.2.2.2.2.2.2.2.2.2.2.2.1.1 with | some y86 => (match (!y86) with | true => (kn (y85.1, y85.2.1, y85.2.2.1, y85.2.2.2.1, y85.2.2.2.2.1, y85.2.2.2.2.2.2.2.2.1, (i64 (y85.2.2.2.2.2.2.2.2.2.1 + 1)), y85.2.2.2.2.2.2.2.2.2.2.1, y85.2.2.2.2.2.2.2.2.2.2.2.1, (y85.2.2.2.2.2.2.2.2.2.2.2.2.2.1.map datF), (y85.2.2.2.2.2.2.2.2.2.2.2.2.2.2.1.map dat0), y85.2.2.2.2.2.2.2.2.2.2.2.2.2.2.2)) | false => (match zfn N (y85.1, y85.2.1, y85.2.2.1, y85.2.2.2.1, y85.2.2.2.2.1, y85.2.2.2.2.2.1, y85.2.2.2.2.2.2.1, y85.2.2.2.2.2.2.2.1, y85.2.2.2.2.2.2.2.2.1, y85.2.2.2.2.2.2.2.2.2.1, (decide (y85.2.2.2.2.2.2.1 >= 0)), y85.2.2.2.2.2.2.2.2.2.2.1, y85.2.2.2.2.2.2.2.2.2.2.2.1, y85.2.2.2.2.2.2.2.2.2.2.2.2.1, (y85.2.2.2.2.2.2.2.2.2.2.2.2.2.1.map datF), (y85.2.2.2.2.2.2.2.2.2.2.2.2.2.2.1.map dat0), y85.2.2.2.2.2.2.2.2.2.2.2.2.2.2.2) with | some y87 => (match y87 with | .inl z88 => (kn (z88.1, z88.2.1, z88.2.2.1, z88.2.2.2.1, z88.2.2.2.2.1, z88.2.2.2.2.2.2.2.1, (i64 (z88.2.2.2.2.2.2.2.2.1 + 1)), z88.2.2.2.2.2.2.2.2.2.1, z88.2.2.2.2.2.2.2.2.2.2.1, (z88.2.2.2.2.2.2.2.2.2.2.2.1.map datF), (z88.2.2.2.2.2.2.2.2.2.2.2.2.1.map dat0), z88.2.2.2.2.2.2.2.2.2.2.2.2.2)) | .inr z89 => (match z89.2.2.2.2.2.2.2.2.2.2.2.1[(z89.2.2.2.2.2.2.1 + 0)]? with | some x90 => (match jf 29 x90 with | some l91 => (match (decide ((l91.length : Int) > 100)) with | true => (ke (.inl (z89.1, z89.2.1, ([] : qL), z89.2.2.2.1, 8, z89.2.2.2.2.1, ([] : qL), z89.2.2.2.2.2.2.2.2.2.2.1, (z89.2.2.2.2.2.2.2.2.2.2.2.1.map datF), (z89.2.2.2.2.2.2.2.2.2.2.2.2.1.map dat0), z89.2.2.2.2.2.2.2.2.2.2.2.2.2))) | false => (if (z89.1.length + [[(AV.v (.int .i64 z89.2.2.2.2.2.1))]].length) * 8 <= zh then (kn ((z89.1 ++ [[(AV.v (.int .i64 z89.2.2.2.2.2.1))]]), z89.2.1, z89.2.2.1, z89.2.2.2.1, z89.2.2.2.2.1, z89.2.2.2.2.2.2.2.1, (i64 (z89.2.2.2.2.2.2.2.2.1 + 1)), z89.2.2.2.2.2.2.2.2.2.1, z89.2.2.2.2.2.2.2.2.2.2.1, (z89.2.2.2.2.2.2.2.2.2.2.2.1.map datF), (z89.2.2.2.2.2.2.2.2.2.2.2.2.1.map dat0), z89.2.2.2.2.2.2.2.2.2.2.2.2.2)) else none)) | none => none) | none => none)) | none => none)) | none => none) | none => none) | none => none) | none => none) else none) else none) | _ => none) | none => none) | none => none) else none) | false => (ke (.inr (u16.1, u16.2.1, u16.2.2.2.1, u16.2.2.2.2.1, u16.2.2.2.2.2.2.2.1, u16.2.2.2.2.2.2.2.2.1, (u16.2.2.2.2.2.2.2.2.2.1.map datF), (u16.2.2.2.2.2.2.2.2.2.2.1.map dat0), u16.2.2.2.2.2.2.2.2.2.2.2))))
abbrev znB (N : Nat) (x : qL × qL × qL × Int × Nat × Int × Int × qL × Nat × qA × qA × Nat × Nat) : Option ((qL × qL × qL × Int × Int × Nat × qL × Nat × qA × qA × Nat × Nat) ⊕ (qL × qL × Int × Nat × qL × Nat × qA × qA × Nat × Nat)) := (zZ N).L N x
def zd2 (N : Nat) : FSpec where
 X := qL × qL × Int
 Y := qL × qL × Int
 ash := [[some 1], [some 25], [none]]
 S := ⟨[[some 1], [some 1], [none]], [], [], [], []⟩
 pat := fun a b => zj a fun v1 c2 => Z3 v1 fun c3 => zj c3 fun c4 c5 => Z1 1 c4 fun a0 => zR c5 <| zj c2 fun v6 c7 => Z1 25 v6 fun a1 => zj c7 fun v8 c9 => jQ .i64 v8 fun a2 => zR c9 <| zR b <| some (a0, a1, a2)
 args := fun x => [(AV.agg [(AV.list 1 x.1 none)]), (AV.list 25 x.2.1 none), (AV.v (.int .i64 x.2.2))]
 ret := fun y => ⟨(AV.tup [(AV.agg [(AV.list 1 y.1 none)]), (AV.list 1 y.2.1 none), (AV.v (.int .i64 y.2.2))]), [], none, [], [], [], none⟩
 t := fun x α k => (match zcZ N x.1 with | some y1 => (match (!y1) with | true => (k (([] : qL), ([] : qL), 1)) | false => (match zhQ N x.2.1 with | some y2 => (match (!y2) with | true => (k (([] : qL), ([] : qL), 1)) | false => (match zsL N (x.1, x.2.2) with | some y3 => (match (y3 != 0) with | true => (k (([] : qL), ([] : qL), y3)) | false => (match zi8 N x.1 with | some y4 => (if 0 <= (x.2.1.length : Int) /\ (x.2.1.length : Int) <= (x.2.1.length : Int) /\ (x.2.1.length : Int).toNat * 1 <= zh then (match zsl N (x.1, x.2.1) with | some y5 => (match znB N (([] : qL), x.2.1, y5, x.2.2, ((x.2.1.length : Int).toNat), (y5.length : Int), 0, ([] : qL), y4.1, ((y4.2.1.map (datJ y4.2.2.1 y4.2.2.2)).map datF), ((List.replicate (x.2.1.length : Int).toNat (AV.v (.bool false))).map dat0), y4.2.2) with | some y92 => (match y92 with | .inl z93 => (k (z93.2.2.2.2.2.2.1, z93.2.2.1, z93.2.2.2.2.1)) | .inr z94 => (match znD N (z94.1, z94.2.1, z94.2.2.1, z94.2.2.2.1, (z94.2.1.length : Int), 0, z94.2.2.2.2.1, z94.2.2.2.2.2.1, (z94.2.2.2.2.2.2.2.1.map dat0), (z94.2.2.2.2.2.2.1.map dat0)) with | some y105 => (match (decide (((y105.2.2.1 : Nat) : Int) > 500)) with | true => (k (([] : qL), ([] : qL), 8)) | false => (if y105.2.2.1 * 1 <= y105.2.2.2.length then (k ((zL (y105.2.2.2.take (y105.2.2.1 * 1)) 1 y105.2.2.1), y105.1, 0)) else none)) | none => none)) | none => none) | none => none) else none) | none => none)) | none => none)) | none => none)) | none => none)
abbrev zku (N : Nat) (x : qL × qL × Int) : Option (qL × qL × Int) := (zd2 N).d x
def jo (N : Nat) : List (Nat × LSpec) := [(16, zZ N), (27, Jo N), (33, ji N), (35, ju N), (46, ZD N)]
def jN : Code := Tryz.f26.body.getD .skip
theorem znI (N : Nat) : Par (ZD N).b := by
 intro x α β kn ke kn' ke' r r' h h1 h2
 revert h
 dsimp only [ZD]
 (repeat' (first | (with_reducible refine ze ?_ ?_) | split)) <;> intro h <;> first | exact h1 _ h | exact h2 _ h | cases h
theorem zkt (N : Nat) : je (J2 qP [36, 66, 101, 156]) (zkv N) Zk N (jo N) 46 jN (ZD N) := fun x α kn ke => by kernel_rfl
theorem zkx (N : Nat) : ZE qP Zk N (jo N) 46 (zc 46 jN) :=
 zC (zM qP [36, 66, 101, 156]) (zi _) zl Zk N (jo N) 46 jN (l := []) (by kernel_rfl) (by kernel_rfl) an (ZD N) rfl (fun s x hc h => by dsimp only [ZD] at h; exact zI hc h (fun _ _ => rfl) rfl rfl rfl) (fun _ => rfl) (zkt N) (znI N)
theorem znH (N : Nat) : Par (ju N).b := by
 intro x α β kn ke kn' ke' r r' h h1 h2
 revert h
 dsimp only [ju]
 (repeat' (first | (with_reducible refine ze ?_ ?_) | split)) <;> intro h <;> first | exact h1 _ h | exact h2 _ h | cases h
theorem zks (N : Nat) : zmd (J2 qP [36, 66, 101, 156]) (zkv N) Zk N (jo N) 35 jN (ju N) := fun x α kn ke => by kernel_rfl
theorem zbt (N : Nat) : ZE qP Zk N (jo N) 35 (zc 35 jN) :=
 j9 (zM qP [36, 66, 101, 156]) (zi _) zl Zk N (jo N) 35 jN (l := []) (by kernel_rfl) an (ju N) rfl (fun s x hc h => by dsimp only [ju] at h; exact zbn hc h (fun _ _ _ _ => rfl) rfl rfl) (zks N) (znH N)
theorem znG (N : Nat) : Par (ji N).b := by
 intro x α β kn ke kn' ke' r r' h h1 h2
 revert h
 dsimp only [ji]
 (repeat' (first | (with_reducible refine ze ?_ ?_) | split)) <;> intro h <;> first | exact h1 _ h | exact h2 _ h | cases h
theorem zkr (N : Nat) : zmd (J2 qP [36, 66, 101, 156]) (zkv N) Zk N (jo N) 33 jN (ji N) := fun x α kn ke => by kernel_rfl
theorem zeA (N : Nat) : ZE qP Zk N (jo N) 33 (zc 33 jN) :=
 j9 (zM qP [36, 66, 101, 156]) (zi _) zl Zk N (jo N) 33 jN (l := [(35, zc 35 jN)]) (by kernel_rfl) (al (zbt N) an) (ji N) rfl (fun s x hc h => by dsimp only [ji] at h; exact zbn hc h (fun _ _ _ _ => rfl) rfl rfl) (zkr N) (znG N)
theorem znF (N : Nat) : Par (Jo N).b := by
 intro x α β kn ke kn' ke' r r' h h1 h2
 revert h
 dsimp only [Jo]
 (repeat' (first | (with_reducible refine ze ?_ ?_) | split)) <;> intro h <;> first | exact h1 _ h | exact h2 _ h | cases h
theorem zkq (N : Nat) : zmd (J2 qP [36, 66, 101, 156]) (zkv N) Zk N (jo N) 27 jN (Jo N) := fun x α kn ke => by kernel_rfl
theorem zez (N : Nat) : ZE qP Zk N (jo N) 27 (zc 27 jN) :=
 j9 (zM qP [36, 66, 101, 156]) (zi _) zl Zk N (jo N) 27 jN (l := []) (by kernel_rfl) an (Jo N) rfl (fun s x hc h => by dsimp only [Jo] at h; exact zbn hc h (fun _ _ _ _ => rfl) rfl rfl) (zkq N) (znF N)
theorem znE (N : Nat) : Par (zZ N).b := by
 intro x α β kn ke kn' ke' r r' h h1 h2
 revert h
 dsimp only [zZ]
 (repeat' (first | (with_reducible refine ze ?_ ?_) | split)) <;> intro h <;> first | exact h1 _ h | exact h2 _ h | cases h
theorem zkp (N : Nat) : je (J2 qP [36, 66, 101, 156]) (zkv N) Zk N (jo N) 16 jN (zZ N) := fun x α kn ke => by kernel_rfl
theorem zkw (N : Nat) : ZE qP Zk N (jo N) 16 (zc 16 jN) :=
 zC (zM qP [36, 66, 101, 156]) (zi _) zl Zk N (jo N) 16 jN (l := [(27, zc 27 jN), (33, zc 33 jN), (35, zc 35 jN)]) (by kernel_rfl) (by kernel_rfl) (al (zez N) (al (zeA N) (al (zbt N) an))) (zZ N) rfl (fun s x hc h => by dsimp only [zZ] at h; exact zbn hc h (fun _ _ _ _ => rfl) rfl rfl) (fun _ => rfl) (zkp N) (znE N)
theorem zrP (N : Nat) : Zc (zd2 N).t := by
 intro x α β k k' r r' h h1
 revert h
 dsimp only [zd2]
 (repeat' (first | (with_reducible refine ze ?_ ?_) | split)) <;> intro h <;> first | exact h1 _ h | cases h
theorem zrQ (N : Nat) : Ze (J2 qP [36, 66, 101, 156]) (zkv N) Zk (lam N (jo N)) Tryz.f26 (zd2 N) := fun x => by kernel_rfl
theorem zx9 (N : Nat) (a : List AV) (b : qL) (x : (zd2 N).X) (h : (zd2 N).pat a b = some x) : a = (zd2 N).args x /\ b = (zd2 N).bs x := by
 obtain ⟨v1, c2, rfl, g0⟩ := zb (show zj _ _ = some x from h)
 obtain ⟨c3, rfl, g1⟩ := zO g0; clear g0
 obtain ⟨c4, c5, rfl, g2⟩ := zb g1; clear g1
 obtain ⟨a0, rfl, g3⟩ := zq g2; clear g2
 obtain ⟨rfl, g4⟩ := zg g3; clear g3
 obtain ⟨v6, c7, rfl, g5⟩ := zb g4; clear g4
 obtain ⟨a1, rfl, g6⟩ := zq g5; clear g5
 obtain ⟨v8, c9, rfl, g7⟩ := zb g6; clear g6
 obtain ⟨a2, rfl, g8⟩ := zA g7; clear g7
 obtain ⟨rfl, g9⟩ := zg g8; clear g8
 obtain ⟨rfl, g10⟩ := zg g9; clear g9
 clear h
 cases g10
 exact ⟨rfl, rfl⟩
def zAW (N : Nat) : Ent qP := zx (zM qP [36, 66, 101, 156]) (zi _) zl 26 Tryz.f26 Tryz.func26 rfl Zk (lam N (jo N)) (zm (l := [(16, zc 16 jN), (27, zc 27 jN), (33, zc 33 jN), (35, zc 35 jN), (46, zc 46 jN)]) (al (zkw N) (al (zez N) (al (zeA N) (al (zbt N) (al (zkx N) an))))) (by kernel_rfl)) (zd2 N) (fun _ => ⟨rfl, rfl⟩) (zrQ N) (zx9 N) (zrP N)
end
end Go.Proofs.YthdgnfcbehcplaaGreatDoor
end
