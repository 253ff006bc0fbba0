/- Several texts as one (written by pack.py). -/
import Derived.Test.YthdgnfcbehcplaaGreatDoorCpC
set_option linter.unusedVariables false
set_option linter.unusedSimpArgs false
set_option linter.unnecessarySimpa false
namespace Go.Proofs.YthdgnfcbehcplaaGreatDoor
section
noncomputable section
open Go.RowKit
set_option maxRecDepth 4000
set_option maxHeartbeats 4000000
def zsE : Nat -> Keep × Keep := anL []
def zwr (N : Nat) : List (Ent qP) := []
def zla (N : Nat) : FSpec where
 X := ByteArray × ByteArray
 Y := Int
 ad := .mk [.str, .str] [] rfl
 ret := λ y => qR (AV.v (.int .i64 y))
 t := λ x α k => (match (Go.Op.bytesLess x.1.toList x.2.toList) with | true => (k (-1)) | false => (match (!((Go.Op.bytesLess x.1.toList x.2.toList) || (x.1.toList == x.2.toList))) with | true => (k 1) | false => (k 0)))
abbrev zdr (N : Nat) (x : ByteArray × ByteArray) : Option (Int) := (zla N).d x
def zwq (N : Nat) : Ent qP := zG (zc qP) zf (zwr N) 114 Tryz.f114 Tryz.func114 zsE N [] (l := []) an (zla N)
abbrev RK4 : List Ck := [.int .i64, .int .i64, .int .i64, .int .i64]
abbrev RT4 : Type := Int × Int × Int × Int × Unit
def zep : Nat -> Keep × Keep := anL [(4, qK [27, 28] [] [], qK [4] [] [])]
def zqQ (N : Nat) : List (Ent qP) := [zwq N]
def Zg (N : Nat) : LSpec where
 X := RT4 × Int
 Y := (Int) ⊕ (Unit)
 dt := .mk 35 0 (zep 4).1.toks [(27, .agg RK4), (28, .int .i64)] [] rfl
 od := .mk 35 0 (zep 4).2.toks [⟨.ret, [(4, .int .i64)], [], none⟩, ⟨.exit 0, [], [], none⟩] rfl
 b := λ u4 α kn ke => (match (decide (u4.2 < 4)) with | true => (if 0 <= u4.2 /\ u4.2 < 4 then (match [(AV.v (.int .i64 u4.1.1)), (AV.v (.int .i64 u4.1.2.1)), (AV.v (.int .i64 u4.1.2.2.1)), (AV.v (.int .i64 u4.1.2.2.2.1))][(u4.2.toNat * 1)]? with | some x5 => (match x5 with | .v (.int q7 n6) => (if q7 = .i64 then (match (n6 != 0) with | true => (ke (.inl n6)) | false => (kn (u4.1, (i64 (u4.2 + 1))))) else none) | _ => none) | none => none) else none) | false => (ke (.inr ())))
abbrev zgM (N : Nat) (x : RT4 × Int) : Option ((Int) ⊕ (Unit)) := (Zg N).L N x
def zkW (N : Nat) : FSpec where
 X := RT2 × RT2
 Y := Int
 ad := .mk [.agg RK2, .agg RK2] [] rfl
 ret := λ y => qR (AV.v (.int .i64 y))
 t := λ x α k => (match zdr N (x.1.1, x.2.1) with | some y1 => (match zdr N (x.1.2.1, x.2.2.1) with | some y2 => (match zdr N (x.1.2.2.1, x.2.2.2.1) with | some y3 => (match zdr N (x.1.2.2.2.1, x.2.2.2.2.1) with | some y4 => (match zgM N ((y1, y2, y3, y4, ()), 0) with | some y8 => (match y8 with | .inl z9 => (k z9) | .inr z10 => (k 0)) | none => none) | none => none) | none => none) | none => none) | none => none)
abbrev zhY (N : Nat) (x : RT2 × RT2) : Option (Int) := (zkW N).d x
def zkV (N : Nat) : List (Nat × LSpec) := [(4, Zg N)]
def zqP : Code := Tryz.f106.body.getD .skip
theorem zjt (N : Nat) : zP qP zep N (zkV N) 4 (zb 4 zqP) :=
 zy (zc qP) zf (zqQ N) (l := []) an (Zg N)
def zwd (N : Nat) : Ent qP := zG (zc qP) zf (zqQ N) 106 Tryz.f106 Tryz.func106 zep N (zkV N) (l := [(4, zb 4 zqP)]) (al (zjt N) an) (zkW N)
abbrev RK5 : List Ck := [.int .i64, .int .i64, .int .i64, .int .i64, .int .i64, .int .i64, .int .i64, .int .i64, .int .i64, .int .i64]
abbrev RT5 : Type := Int × Int × Int × Int × Int × Int × Int × Int × Int × Int × Unit
def zir : Nat -> Keep × Keep := anL [(9, qK [41, 42] [] [], qK [4] [] [])]
def zyD (N : Nat) : List (Ent qP) := [zwd N]
def ji (N : Nat) : LSpec where
 X := RT5 × Int
 Y := (Int) ⊕ (Unit)
 dt := .mk 56 0 (zir 9).1.toks [(41, .agg RK5), (42, .int .i64)] [] rfl
 od := .mk 56 0 (zir 9).2.toks [⟨.ret, [(4, .int .i64)], [], none⟩, ⟨.exit 0, [], [], none⟩] rfl
 b := λ u9 α kn ke => (match (decide (u9.2 < 5)) with | true => (if 0 <= u9.2 /\ u9.2 < 5 then (match ([(AV.v (.int .i64 u9.1.1)), (AV.v (.int .i64 u9.1.2.1)), (AV.v (.int .i64 u9.1.2.2.1)), (AV.v (.int .i64 u9.1.2.2.2.1)), (AV.v (.int .i64 u9.1.2.2.2.2.1)), (AV.v (.int .i64 u9.1.2.2.2.2.2.1)), (AV.v (.int .i64 u9.1.2.2.2.2.2.2.1)), (AV.v (.int .i64 u9.1.2.2.2.2.2.2.2.1)), (AV.v (.int .i64 u9.1.2.2.2.2.2.2.2.2.1)), (AV.v (.int .i64 u9.1.2.2.2.2.2.2.2.2.2.1))].drop (u9.2.toNat * 2)) with | x2 :: r3 => (match x2 with | .v (.int q5 n4) => (if q5 = .i64 then (match r3 with | x6 :: r7 => (match x6 with | .v (.int q9 n8) => (if q9 = .i64 then (match (decide (n4 < n8)) with | true => (ke (.inl (-1))) | false => (match (decide (n4 > n8)) with | true => (ke (.inl 1)) | false => (kn (u9.1, (i64 (u9.2 + 1)))))) else none) | _ => none) | [] => none) else none) | _ => none) | [] => none) else none) | false => (ke (.inr ())))
abbrev zrM (N : Nat) (x : RT5 × Int) : Option ((Int) ⊕ (Unit)) := (ji N).L N x
def zt6 (N : Nat) : FSpec where
 X := RT1 × RT1
 Y := Int
 ad := .mk [.agg RK1, .agg RK1] [] rfl
 ret := λ y => qR (AV.v (.int .i64 y))
 t := λ x α k => (match zhY N ((j7 x.1), (j7 x.2)) with | some y1 => (match (y1 != 0) with | true => (k y1) | false => (match zrM N ((x.1.2.2.2.2.1, x.2.2.2.2.2.1, x.1.2.2.2.2.2.1, x.2.2.2.2.2.2.1, x.1.2.2.2.2.2.2.1, x.2.2.2.2.2.2.2.1, x.1.2.2.2.2.2.2.2.1, x.2.2.2.2.2.2.2.2.1, x.1.2.2.2.2.2.2.2.2.1, x.2.2.2.2.2.2.2.2.2.1, ()), 0) with | some y10 => (match y10 with | .inl z11 => (k z11) | .inr z12 => (k 0)) | none => none)) | none => none)
abbrev zpb (N : Nat) (x : RT1 × RT1) : Option (Int) := (zt6 N).d x
def zrN (N : Nat) : List (Nat × LSpec) := [(9, ji N)]
def zyB : Code := Tryz.f94.body.getD .skip
theorem zmX (N : Nat) : zP qP zir N (zrN N) 9 (zb 9 zyB) :=
 zy (zc qP) zf (zyD N) (l := []) an (ji N)
def zyC (N : Nat) : Ent qP := zG (zc qP) zf (zyD N) 94 Tryz.f94 Tryz.func94 zir N (zrN N) (l := [(9, zb 9 zyB)]) (al (zmX N) an) (zt6 N)
def zx2 : Nat -> Keep × Keep := anL []
def zBO (N : Nat) : List (Ent qP) := [zyC N]
def ztK (N : Nat) : FSpec where
 X := RT1 × RT1
 Y := Int
 ad := .mk [.agg RK1, .agg RK1] [] rfl
 ret := λ y => qR (AV.v (.int .i64 y))
 t := λ x α k => (match (decide (x.1.2.2.2.2.1 < x.2.2.2.2.2.1)) with | true => (k (-1)) | false => (match (decide (x.1.2.2.2.2.1 > x.2.2.2.2.2.1)) with | true => (k 1) | false => (match zpb N x with | some y1 => (k y1) | none => none)))
abbrev zo6 (N : Nat) (x : RT1 × RT1) : Option (Int) := (ztK N).d x
def zx3 (N : Nat) : Ent qP := zG (zc qP) zf (zBO N) 73 Tryz.f73 Tryz.func73 zx2 N [] (l := []) an (ztK N)
def zil : Nat -> Keep × Keep := anL [(5, ⟨[2, 3, 4], [], [2, 3], [(0, 9)], [], [], [], [], false, none, []⟩, qK [2, 3] [] [2, 3])]
def zxY (N : Nat) : List (Ent qP) := [zx3 N]
def jP (N : Nat) : LSpec where
 X := qL × Int × RT1 × RT1
 Y := (RT1 × RT1)
 dt := .mk 26 0 (zil 5).1.toks [(0, .lst 9), (2, .ptr 2 0), (3, .ptr 3 0), (4, .int .i64)] [(2, .row RK1), (3, .row RK1)] rfl
 od := .mk 26 0 (zil 5).2.toks [⟨.exit 0, [(2, .ptr 2 0), (3, .ptr 3 0)], [(2, .row RK1), (3, .row RK1)], none⟩] rfl
 b := λ u5 α kn ke => (match (decide (u5.2.1 < (u5.1.length : Int))) with | true => (if 0 <= u5.2.1 then (match u5.1[u5.2.1.toNat]? with | some c8 => (match jk c8 with | some e9 => (match zo6 N (e9, u5.2.2.2) with | some y10 => (match (decide (y10 < 0)) with | true => (if 0 <= u5.2.1 then (match u5.1[u5.2.1.toNat]? with | some c11 => (match jk c11 with | some e12 => (kn (u5.1, (i64 (u5.2.1 + 1)), u5.2.2.1, e12)) | none => none) | none => none) else none) | false => (kn (u5.1, (i64 (u5.2.1 + 1)), u5.2.2))) | none => none) | none => none) | none => none) else none) | false => (ke u5.2.2))
abbrev zrx (N : Nat) (x : qL × Int × RT1 × RT1) : Option ((RT1 × RT1)) := (jP N).L N x
def ztF (N : Nat) : FSpec where
 X := qL
 Y := RT1
 ad := .mk [.lst 9] [] rfl
 S := ⟨[[none, none, none, none, none, none, none, none, none]], [], [], [], []⟩
 ret := λ y => qR (AV.agg (zh y))
 t := λ x α k => (if 0 <= (0 : Int) then (match x[(0 : Int).toNat]? with | some c1 => (match jk c1 with | some e2 => (match zrx N (x, 1, ((⟨#[]⟩ : ByteArray), (⟨#[]⟩ : ByteArray), (⟨#[]⟩ : ByteArray), (⟨#[]⟩ : ByteArray), 0, 0, 0, 0, 0, ()), e2) with | some y13 => (k y13.2) | none => none) | none => none) | none => none) else none)
abbrev ztE (N : Nat) (x : qL) : Option (RT1) := (ztF N).d x
def zry (N : Nat) : List (Nat × LSpec) := [(5, jP N)]
def zxX : Code := Tryz.f70.body.getD .skip
theorem zmq (N : Nat) : zP qP zil N (zry N) 5 (zb 5 zxX) :=
 zy (zc qP) zf (zxY N) (l := []) an (jP N)
def zBM (N : Nat) : Ent qP := zG (zc qP) zf (zxY N) 70 Tryz.f70 Tryz.func70 zil N (zry N) (l := [(5, zb 5 zxX)]) (al (zmq N) an) (ztF N)
def zca : Nat -> Keep × Keep := anF [(5, ⟨[4], [], [], [(0, 9)], [], [(3, 9)], [], [], false, none, []⟩, ⟨[], [], [], [], [], [(3, 9)], [], [], false, none, []⟩), (14, ⟨[3, 4, 5], [], [1000003], [(0, 9)], [], [], [], [1000003], false, none, []⟩, ⟨[3, 4, 5], [], [1000003], [(0, 9)], [], [], [], [1000003], false, none, []⟩)] [(100012, ([3], []))]
def ztI (N : Nat) : List (Ent qP) := [zyC N]
def ZB (N : Nat) : LSpec where
 X := qL × Nat × Int × Int × qA
 Y := (qL × Nat × Int × Int × qA)
 dt := .mk 68 0 (zca 14).1.toks [(0, .lst 9), (3, .vs0 1000003 9), (4, .int .i64), (5, .int .i64)] [(1000003, .tt)] rfl
 od := .mk 68 0 (zca 14).2.toks [⟨.exit 2, [(0, .lst 9), (3, .vs0 1000003 9), (4, .int .i64), (5, .int .i64)], [(1000003, .tt)], none⟩] rfl
 b := λ u14 α kn ke => (match (decide (u14.2.2.2.1 > 0)) with | true => (if 0 <= (i64 (u14.2.2.2.1 - 1)) /\ (i64 (u14.2.2.2.1 - 1)) < (u14.2.1 : Int) then (match jk (u14.2.2.2.2.drop ((0 + (i64 (u14.2.2.2.1 - 1)).toNat) * 9)) with | some e5 => (if 0 <= u14.2.2.1 then (match u14.1[u14.2.2.1.toNat]? with | some c6 => (match jk c6 with | some e7 => (match zpb N (e5, e7) with | some y8 => (match (decide (y8 > 0)) with | true => (kn (u14.1, u14.2.1, u14.2.2.1, (i64 (u14.2.2.2.1 - 1)), (u14.2.2.2.2.map dat0))) | false => (ke (u14.1, u14.2.1, u14.2.2.1, u14.2.2.2.1, (u14.2.2.2.2.map dat0)))) | none => none) | none => none) | none => none) else none) | none => none) else none) | false => (ke (u14.1, u14.2.1, u14.2.2.1, u14.2.2.2.1, (u14.2.2.2.2.map dat0))))
abbrev zmt (N : Nat) (x : qL × Nat × Int × Int × qA) : Option ((qL × Nat × Int × Int × qA)) := (ZB N).L N x
def jh (N : Nat) : LSpec where
 X := Nat × qL × Int × qA
 Y := (Nat × qA)
 dt := .mk 68 0 (zca 5).1.toks [(3, .vs0 1000003 9), (0, .lst 9), (4, .int .i64)] [(1000003, .tt)] rfl
 od := .mk 68 0 (zca 5).2.toks [⟨.exit 0, [(3, .vs0 1000003 9)], [(1000003, .tt)], none⟩] rfl
 b := λ u5 α kn ke => (match (decide (u5.2.2.1 < (u5.2.1.length : Int))) with | true => (match zmt N (u5.2.1, u5.1, u5.2.2.1, ((u5.1 : Nat) : Int), (u5.2.2.2.map dat0)) with | some y9 => (match (decide (y9.2.2.2.1 > 0)) with | true => (if 0 <= (i64 (y9.2.2.2.1 - 1)) /\ (i64 (y9.2.2.2.1 - 1)) < (y9.2.1 : Int) then (match jk (y9.2.2.2.2.drop ((0 + (i64 (y9.2.2.2.1 - 1)).toNat) * 9)) with | some e10 => (if 0 <= y9.2.2.1 then (match y9.1[y9.2.2.1.toNat]? with | some c11 => (match jk c11 with | some e12 => (match (((e10.1 == e12.1) && ((e10.2.1 == e12.2.1) && ((e10.2.2.1 == e12.2.2.1) && ((e10.2.2.2.1 == e12.2.2.2.1) && true)))) && ((e10.2.2.2.2.1 == e12.2.2.2.2.1) && ((e10.2.2.2.2.2.1 == e12.2.2.2.2.2.1) && ((e10.2.2.2.2.2.2.1 == e12.2.2.2.2.2.2.1) && ((e10.2.2.2.2.2.2.2.1 == e12.2.2.2.2.2.2.2.1) && ((e10.2.2.2.2.2.2.2.2.1 == e12.2.2.2.2.2.2.2.2.1) && true)))))) with | true => (kn (y9.2.1, y9.1, (i64 (y9.2.2.1 + 1)), (y9.2.2.2.2.map dat0))) | false => (if 0 <= y9.2.2.1 then (match y9.1[y9.2.2.1.toNat]? with | some c13 => (match jk c13 with | some e14 => (if y9.2.1 * 9 <= y9.2.2.2.2.length /\ (y9.2.1 + [(zh e14)].length) * 104 <= zd then (if 0 <= (i64 (y9.2.2.2.1 + 1)) /\ (i64 (y9.2.2.2.1 + 1)) <= (((y9.2.1 + [(zh e14)].length) : Nat) : Int) then (if 0 <= y9.2.2.2.1 /\ y9.2.2.2.1 <= (((y9.2.1 + [(zh e14)].length) : Nat) : Int) then (if ((0 + y9.2.2.2.1.toNat) + ((y9.2.1 + [(zh e14)].length) - y9.2.2.2.1.toNat)) * 9 <= (y9.2.2.2.2.take (y9.2.1 * 9) ++ [(zh e14)].flatten).length then (if ((0 + (i64 (y9.2.2.2.1 + 1)).toNat) + ((y9.2.1 + [(zh e14)].length) - (i64 (y9.2.2.2.1 + 1)).toNat)) * 9 <= (y9.2.2.2.2.take (y9.2.1 * 9) ++ [(zh e14)].flatten).length then (if 0 <= y9.2.2.1 then (match y9.1[y9.2.2.1.toNat]? with | some c15 => (match jk c15 with | some e16 => (if 0 <= y9.2.2.2.1 /\ y9.2.2.2.1 < (((y9.2.1 + [(zh e14)].length) : Nat) : Int) then (if ((0 + y9.2.2.2.1.toNat) * 9) + 9 <= (splice (y9.2.2.2.2.take (y9.2.1 * 9) ++ [(zh e14)].flatten) ((0 + (i64 (y9.2.2.2.1 + 1)).toNat) * 9) (((y9.2.2.2.2.take (y9.2.1 * 9) ++ [(zh e14)].flatten).drop ((0 + y9.2.2.2.1.toNat) * 9)).take ((Nat.min ((y9.2.1 + [(zh e14)].length) - y9.2.2.2.1.toNat) ((y9.2.1 + [(zh e14)].length) - (i64 (y9.2.2.2.1 + 1)).toNat)) * 9))).length then (kn ((y9.2.1 + [(zh e14)].length), y9.1, (i64 (y9.2.2.1 + 1)), ((splice (splice (y9.2.2.2.2.take (y9.2.1 * 9) ++ [(zh e14)].flatten) ((0 + (i64 (y9.2.2.2.1 + 1)).toNat) * 9) (((y9.2.2.2.2.take (y9.2.1 * 9) ++ [(zh e14)].flatten).drop ((0 + y9.2.2.2.1.toNat) * 9)).take ((Nat.min ((y9.2.1 + [(zh e14)].length) - y9.2.2.2.1.toNat) ((y9.2.1 + [(zh e14)].length) - (i64 (y9.2.2.2.1 + 1)).toNat)) * 9))) ((0 + y9.2.2.2.1.toNat) * 9) (zh e16)).map dat0))) else none) else none) | none => none) | none => none) else none) else none) else none) else none) else none) else none) | none => none) | none => none) else none)) | none => none) | none => none) else none) | none => none) else none) | false => (if 0 <= y9.2.2.1 then (match y9.1[y9.2.2.1.toNat]? with | some c17 => (match jk c17 with | some e18 => (if y9.2.1 * 9 <= y9.2.2.2.2.length /\ (y9.2.1 + [(zh e18)].length) * 104 <= zd then (if 0 <= (i64 (y9.2.2.2.1 + 1)) /\ (i64 (y9.2.2.2.1 + 1)) <= (((y9.2.1 + [(zh e18)].length) : Nat) : Int) then (if 0 <= y9.2.2.2.1 /\ y9.2.2.2.1 <= (((y9.2.1 + [(zh e18)].length) : Nat) : Int) then (if ((0 + y9.2.2.2.1.toNat) + ((y9.2.1 + [(zh e18)].length) - y9.2.2.2.1.toNat)) * 9 <= (y9.2.2.2.2.take (y9.2.1 * 9) ++ [(zh e18)].flatten).length then (if ((0 + (i64 (y9.2.2.2.1 + 1)).toNat) + ((y9.2.1 + [(zh e18)].length) - (i64 (y9.2.2.2.1 + 1)).toNat)) * 9 <= (y9.2.2.2.2.take (y9.2.1 * 9) ++ [(zh e18)].flatten).length then (if 0 <= y9.2.2.1 then (match y9.1[y9.2.2.1.toNat]? with | some c19 => (match jk c19 with | some e20 => (if 0 <= y9.2.2.2.1 /\ y9.2.2.2.1 < (((y9.2.1 + [(zh e18)].length) : Nat) : Int) then (if ((0 + y9.2.2.2.1.toNat) * 9) + 9 <= (splice (y9.2.2.2.2.take (y9.2.1 * 9) ++ [(zh e18)].flatten) ((0 + (i64 (y9.2.2.2.1 + 1)).toNat) * 9) (((y9.2.2.2.2.take (y9.2.1 * 9) ++ [(zh e18)].flatten).drop ((0 + y9.2.2.2.1.toNat) * 9)).take ((Nat.min ((y9.2.1 + [(zh e18)].length) - y9.2.2.2.1.toNat) ((y9.2.1 + [(zh e18)].length) - (i64 (y9.2.2.2.1 + 1)).toNat)) * 9))).length then (kn ((y9.2.1 + [(zh e18)].length), y9.1, (i64 (y9.2.2.1 + 1)), ((splice (splice (y9.2.2.2.2.take (y9.2.1 * 9) ++ [(zh e18)].flatten) ((0 + (i64 (y9.2.2.2.1 + 1)).toNat) * 9) (((y9.2.2.2.2.take (y9.2.1 * 9) ++ [(zh e18)].flatten).drop ((0 + y9.2.2.2.1.toNat) * 9)).take ((Nat.min ((y9.2.1 + [(zh e18)].length) - y9.2.2.2.1.toNat) ((y9.2.1 + [(zh e18)].length) - (i64 (y9.2.2.2.1 + 1)).toNat)) * 9))) ((0 + y9.2.2.2.1.toNat) * 9) (zh e20)).map dat0))) else none) else none) | none => none) | none => none) else none) else none) else none) else none) else none) else none) | none => none) | none => none) else none)) | none => none) | false => (ke (u5.1, (u5.2.2.2.map dat0))))
abbrev zrB (N : Nat) (x : Nat × qL × Int × qA) : Option ((Nat × qA)) := (jh N).L N x
def ztJ (N : Nat) : FSpec where
 X := qL
 Y := qL
 ad := .mk [.lst 9] [] rfl
 S := ⟨[[some 2000009]], [], [], [], []⟩
 ret := λ y => ⟨(AV.list 9 y (some 2560000000)), [], none, [], [2560000000], [], none⟩
 t := λ x α k => (match zrB N (0, x, 0, ([] : List AV)) with | some y21 => (if y21.1 * 9 <= y21.2.length then (k (zp (y21.2.take (y21.1 * 9)) 9 y21.1)) else none) | none => none)
abbrev ztH (N : Nat) (x : qL) : Option (qL) := (ztJ N).d x
def zmv (N : Nat) : List (Nat × LSpec) := [(5, jh N), (14, ZB N)]
def zms : Code := Tryz.f72.body.getD .skip
theorem zdS (N : Nat) : zP qP zca N (zmv N) 14 (zb 14 zms) :=
 zy (zr qP [51]) zf (ztI N) (l := []) an (ZB N)
theorem zmu (N : Nat) : zP qP zca N (zmv N) 5 (zb 5 zms) :=
 zy (zr qP [51]) zf (ztI N) (l := [(14, zb 14 zms)]) (al (zdS N) an) (jh N)
def zBN (N : Nat) : Ent qP := zG (zr qP [51]) zf (ztI N) 72 Tryz.f72 Tryz.func72 zca N (zmv N) (l := [(5, zb 5 zms), (14, zb 14 zms)]) (al (zmu N) (al (zdS N) an)) (ztJ N)
def zim : Nat -> Keep × Keep := anL [(8, ⟨[5], [], [], [(0, 9), (1, 9)], [], [], [], [], false, none, []⟩, qK [4] [] [])]
def zx1 (N : Nat) : List (Ent qP) := []
def Z2 (N : Nat) : LSpec where
 X := qL × qL × Int
 Y := (Bool) ⊕ (Unit)
 dt := .mk 26 0 (zim 8).1.toks [(0, .lst 9), (1, .lst 9), (5, .int .i64)] [] rfl
 od := .mk 26 0 (zim 8).2.toks [⟨.ret, [(4, .bool)], [], none⟩, ⟨.exit 0, [], [], none⟩] rfl
 b := λ u8 α kn ke => (match (decide (u8.2.2 < (u8.1.length : Int))) with | true => (if 0 <= u8.2.2 then (match u8.1[u8.2.2.toNat]? with | some c1 => (match jk c1 with | some e2 => (if 0 <= u8.2.2 then (match u8.2.1[u8.2.2.toNat]? with | some c3 => (match jk c3 with | some e4 => (match (!(((e2.1 == e4.1) && ((e2.2.1 == e4.2.1) && ((e2.2.2.1 == e4.2.2.1) && ((e2.2.2.2.1 == e4.2.2.2.1) && true)))) && ((e2.2.2.2.2.1 == e4.2.2.2.2.1) && ((e2.2.2.2.2.2.1 == e4.2.2.2.2.2.1) && ((e2.2.2.2.2.2.2.1 == e4.2.2.2.2.2.2.1) && ((e2.2.2.2.2.2.2.2.1 == e4.2.2.2.2.2.2.2.1) && ((e2.2.2.2.2.2.2.2.2.1 == e4.2.2.2.2.2.2.2.2.1) && true))))))) with | true => (ke (.inl false)) | false => (kn (u8.1, u8.2.1, (i64 (u8.2.2 + 1))))) | none => none) | none => none) else none) | none => none) | none => none) else none) | false => (ke (.inr ())))
abbrev zrz (N : Nat) (x : qL × qL × Int) : Option ((Bool) ⊕ (Unit)) := (Z2 N).L N x
def ztG (N : Nat) : FSpec where
 X := qL × qL
 Y := Bool
 ad := .mk [.lst 9, .lst 9] [] rfl
 ret := λ y => qR (AV.v (.bool y))
 t := λ x α k => (match ((x.1.length : Int) != (x.2.length : Int)) with | true => (k false) | false => (match zrz N (x.1, x.2, 0) with | some y5 => (match y5 with | .inl z6 => (k z6) | .inr z7 => (k true)) | none => none))
abbrev zjU (N : Nat) (x : qL × qL) : Option (Bool) := (ztG N).d x
def zrA (N : Nat) : List (Nat × LSpec) := [(8, Z2 N)]
def zxZ : Code := Tryz.f71.body.getD .skip
theorem zmr (N : Nat) : zP qP zim N (zrA N) 8 (zb 8 zxZ) :=
 zy (zc qP) zf (zx1 N) (l := []) an (Z2 N)
def zx0 (N : Nat) : Ent qP := zG (zc qP) zf (zx1 N) 71 Tryz.f71 Tryz.func71 zim N (zrA N) (l := [(8, zb 8 zxZ)]) (al (zmr N) an) (ztG N)
def zcb : Nat -> Keep × Keep := anL [(4, ⟨[5], [], [], [(0, 9), (1, 9)], [], [], [], [], false, none, []⟩, qK [4] [] []), (12, ⟨[5, 6], [], [], [(0, 9), (1, 9)], [], [], [], [], false, none, []⟩, ⟨[4, 5], [], [], [(0, 9), (1, 9)], [], [], [], [], false, none, []⟩)]
def ztL (N : Nat) : List (Ent qP) := []
def Zw (N : Nat) : LSpec where
 X := qL × qL × Int × Int
 Y := (qL × qL × Bool × Int) ⊕ (qL × qL × Int)
 dt := .mk 28 0 (zcb 12).1.toks [(0, .lst 9), (1, .lst 9), (5, .int .i64), (6, .int .i64)] [] rfl
 od := .mk 28 0 (zcb 12).2.toks [⟨.ret, [(0, .lst 9), (1, .lst 9), (4, .bool), (5, .int .i64)], [], none⟩, ⟨.exit 2, [(0, .lst 9), (1, .lst 9), (5, .int .i64)], [], none⟩] rfl
 b := λ u12 α kn ke => (match (decide (u12.2.2.2 < (u12.2.1.length : Int))) with | true => (if 0 <= u12.2.2.1 then (match u12.1[u12.2.2.1.toNat]? with | some c1 => (match jk c1 with | some e2 => (if 0 <= u12.2.2.2 then (match u12.2.1[u12.2.2.2.toNat]? with | some c3 => (match jk c3 with | some e4 => (match (((e2.1 == e4.1) && ((e2.2.1 == e4.2.1) && ((e2.2.2.1 == e4.2.2.1) && ((e2.2.2.2.1 == e4.2.2.2.1) && true)))) && ((e2.2.2.2.2.1 == e4.2.2.2.2.1) && ((e2.2.2.2.2.2.1 == e4.2.2.2.2.2.1) && ((e2.2.2.2.2.2.2.1 == e4.2.2.2.2.2.2.1) && ((e2.2.2.2.2.2.2.2.1 == e4.2.2.2.2.2.2.2.1) && ((e2.2.2.2.2.2.2.2.2.1 == e4.2.2.2.2.2.2.2.2.1) && true)))))) with | true => (ke (.inl (u12.1, u12.2.1, true, u12.2.2.1))) | false => (kn (u12.1, u12.2.1, u12.2.2.1, (i64 (u12.2.2.2 + 1))))) | none => none) | none => none) else none) | none => none) | none => none) else none) | false => (ke (.inr (u12.1, u12.2.1, u12.2.2.1))))
abbrev zg5 (N : Nat) (x : qL × qL × Int × Int) : Option ((qL × qL × Bool × Int) ⊕ (qL × qL × Int)) := (Zw N).L N x
def Z3 (N : Nat) : LSpec where
 X := qL × qL × Int
 Y := (Bool) ⊕ (Unit)
 dt := .mk 28 0 (zcb 4).1.toks [(0, .lst 9), (1, .lst 9), (5, .int .i64)] [] rfl
 od := .mk 28 0 (zcb 4).2.toks [⟨.ret, [(4, .bool)], [], none⟩, ⟨.exit 0, [], [], none⟩] rfl
 b := λ u4 α kn ke => (match (decide (u4.2.2 < (u4.1.length : Int))) with | true => (match zg5 N (u4.1, u4.2.1, u4.2.2, 0) with | some y5 => (match y5 with | .inl z6 => (ke (.inl z6.2.2.1)) | .inr z7 => (kn (z7.1, z7.2.1, (i64 (z7.2.2 + 1))))) | none => none) | false => (ke (.inr ())))
abbrev zrC (N : Nat) (x : qL × qL × Int) : Option ((Bool) ⊕ (Unit)) := (Z3 N).L N x
def ztM (N : Nat) : FSpec where
 X := qL × qL
 Y := Bool
 ad := .mk [.lst 9, .lst 9] [] rfl
 ret := λ y => qR (AV.v (.bool y))
 t := λ x α k => (match zrC N (x.1, x.2, 0) with | some y8 => (match y8 with | .inl z9 => (k z9) | .inr z10 => (k false)) | none => none)
abbrev zo7 (N : Nat) (x : qL × qL) : Option (Bool) := (ztM N).d x
def zmy (N : Nat) : List (Nat × LSpec) := [(4, Z3 N), (12, Zw N)]
def zmw : Code := Tryz.f74.body.getD .skip
theorem zdT (N : Nat) : zP qP zcb N (zmy N) 12 (zb 12 zmw) :=
 zy (zc qP) zf (ztL N) (l := []) an (Zw N)
theorem zmx (N : Nat) : zP qP zcb N (zmy N) 4 (zb 4 zmw) :=
 zy (zc qP) zf (ztL N) (l := [(12, zb 12 zmw)]) (al (zdT N) an) (Z3 N)
def zBP (N : Nat) : Ent qP := zG (zc qP) zf (ztL N) 74 Tryz.f74 Tryz.func74 zcb N (zmy N) (l := [(4, zb 4 zmw), (12, zb 12 zmw)]) (al (zmx N) (al (zdT N) an)) (ztM N)
def zbX : Nat -> Keep × Keep := anL [(4, ⟨[3], [], [], [(0, 25)], [], [], [], [], false, none, []⟩, qK [2] [] []), (17, ⟨[3, 5], [], [], [(0, 25), (4, 9)], [], [], [], [], false, none, []⟩, ⟨[2, 3], [], [], [(0, 25)], [], [], [], [], false, none, []⟩)]
def zsY (N : Nat) : List (Ent qP) := [zBM N, zBN N, zx0 N, zx3 N, zBP N]
def zaG (N : Nat) : LSpec where
 X := qL × qL × Int × Int
 Y := (qL × Bool × Int) ⊕ (qL × Int)
 dt := .mk 70 0 (zbX 17).1.toks [(0, .lst 25), (4, .lst 9), (3, .int .i64), (5, .int .i64)] [] rfl
 od := .mk 70 0 (zbX 17).2.toks [⟨.ret, [(0, .lst 25), (2, .bool), (3, .int .i64)], [], none⟩, ⟨.exit 2, [(0, .lst 25), (3, .int .i64)], [], none⟩] rfl
 b := λ u17 α kn ke => (match (decide (u17.2.2.2 < u17.2.2.1)) with | true => (if 0 <= u17.2.2.2 then (match u17.1[u17.2.2.2.toNat]? with | some c14 => (match ((c14.drop 9).drop 0)[0]? with | some x15 => (match Zf 9 x15 with | some l16 => (match zo7 N (u17.2.1, l16) with | some y17 => (match y17 with | true => (ke (.inl (u17.1, false, u17.2.2.1))) | false => (kn (u17.1, u17.2.1, u17.2.2.1, (i64 (u17.2.2.2 + 1))))) | none => none) | none => none) | none => none) | none => none) else none) | false => (ke (.inr (u17.1, u17.2.2.1))))
abbrev zbY (N : Nat) (x : qL × qL × Int × Int) : Option ((qL × Bool × Int) ⊕ (qL × Int)) := (zaG N).L N x
def zdH (N : Nat) : LSpec where
 X := qL × Int
 Y := (Bool) ⊕ (Unit)
 dt := .mk 70 0 (zbX 4).1.toks [(0, .lst 25), (3, .int .i64)] [] rfl
 od := .mk 70 0 (zbX 4).2.toks [⟨.ret, [(2, .bool)], [], none⟩, ⟨.exit 0, [], [], none⟩] rfl
 b := λ u4 α kn ke => (match (decide (u4.2 < (u4.1.length : Int))) with | true => (if 0 <= u4.2 then (match u4.1[u4.2.toNat]? with | some c1 => (match ((c1.drop 9).drop 0)[0]? with | some x2 => (match Zf 9 x2 with | some l3 => (match ((l3.length : Int) == 0) with | true => (ke (.inl false)) | false => (if 0 <= u4.2 then (match u4.1[u4.2.toNat]? with | some c4 => (match jk (c4.drop 0) with | some e5 => (match ztE N l3 with | some y6 => (match (!(((e5.1 == y6.1) && ((e5.2.1 == y6.2.1) && ((e5.2.2.1 == y6.2.2.1) && ((e5.2.2.2.1 == y6.2.2.2.1) && true)))) && ((e5.2.2.2.2.1 == y6.2.2.2.2.1) && ((e5.2.2.2.2.2.1 == y6.2.2.2.2.2.1) && ((e5.2.2.2.2.2.2.1 == y6.2.2.2.2.2.2.1) && ((e5.2.2.2.2.2.2.2.1 == y6.2.2.2.2.2.2.2.1) && ((e5.2.2.2.2.2.2.2.2.1 == y6.2.2.2.2.2.2.2.2.1) && true))))))) with | true => (ke (.inl false)) | false => (match ztH N l3 with | some y7 => (match zjU N (l3, y7) with | some y8 => (match (!y8) with | true => (ke (.inl false)) | false => (match (decide (u4.2 > 0)) with | true => (if 0 <= (i64 (u4.2 - 1)) then (match u4.1[(i64 (u4.2 - 1)).toNat]? with | some c9 => (match jk (c9.drop 0) with | some e10 => (if 0 <= u4.2 then (match u4.1[u4.2.toNat]? with | some c11 => (match jk (c11.drop 0) with | some e12 => (match zo6 N (e10, e12) with | some y13 => (match (decide (y13 >= 0)) with | true => (ke (.inl false)) | false => (match zbY N (u4.1, l3, u4.2, 0) with | some y18 => (match y18 with | .inl z19 => (ke (.inl z19.2.1)) | .inr z20 => (kn (z20.1, (i64 (z20.2 + 1))))) | none => none)) | none => none) | none => none) | none => none) else none) | none => none) | none => none) else none) | false => (match zbY N (u4.1, l3, u4.2, 0) with | some y21 => (match y21 with | .inl z22 => (ke (.inl z22.2.1)) | .inr z23 => (kn (z23.1, (i64 (z23.2 + 1))))) | none => none))) | none => none) | none => none)) | none => none) | none => none) | none => none) else none)) | none => none) | none => none) | none => none) else none) | false => (ke (.inr ())))
abbrev zrh (N : Nat) (x : qL × Int) : Option ((Bool) ⊕ (Unit)) := (zdH N).L N x
def zsZ (N : Nat) : FSpec where
 X := qL
 Y := Bool
 ad := .mk [.lst 25] [] rfl
 ret := λ y => qR (AV.v (.bool y))
 t := λ x α k => (match zrh N (x, 0) with | some y24 => (match y24 with | .inl z25 => (k z25) | .inr z26 => (k true)) | none => none)
abbrev zaF (N : Nat) (x : qL) : Option (Bool) := (zsZ N).d x
def zlL (N : Nat) : List (Nat × LSpec) := [(4, zdH N), (17, zaG N)]
def zlJ : Code := Tryz.f39.body.getD .skip
theorem zdI (N : Nat) : zP qP zbX N (zlL N) 17 (zb 17 zlJ) :=
 zy (zc qP) zf (zsY N) (l := []) an (zaG N)
theorem zlK (N : Nat) : zP qP zbX N (zlL N) 4 (zb 4 zlJ) :=
 zy (zc qP) zf (zsY N) (l := [(17, zb 17 zlJ)]) (al (zdI N) an) (zdH N)
def zoT (N : Nat) : Ent qP := zG (zc qP) zf (zsY N) 39 Tryz.f39 Tryz.func39 zbX N (zlL N) (l := [(4, zb 4 zlJ), (17, zb 17 zlJ)]) (al (zlK N) (al (zdI N) an)) (zsZ N)
abbrev RK6 : List Ck := [.sl 29]
abbrev RT6 : Type := qL × Unit
def zbr (c : List AV) : Option RT6 := dec RK6 c
abbrev RK7 : List Ck := [.int .i64, .int .i64, .str, .int .i64, .str, .str, .str, .str, .int .i64, .int .i64, .int .i64, .int .i64, .int .i64, .sl 9, .int .i64, .int .i64, .int .i64, .int .i64, .int .i64, .int .i64, .int .i64, .int .i64, .int .i64, .int .i64, .int .i64, .int .i64, .int .i64, .int .i64, .int .i64]
abbrev RT7 : Type := Int × Int × ByteArray × Int × ByteArray × ByteArray × ByteArray × ByteArray × Int × Int × Int × Int × Int × qL × Int × Int × Int × Int × Int × Int × Int × Int × Int × Int × Int × Int × Int × Int × Int × Unit
def zfw (c : List AV) : Option RT7 := dec RK7 c
def zo (e : RT7) : List AV := enc RK7 e
theorem zud (e : RT7) : zfw (zo e) = some e := zbD (ks := RK7) e rfl
theorem Jw (e : RT7) : (zo e).length = 29 := zeY (ks := RK7) e
@[reducible] def zm (e : RT7) : RT0 := (e.2.2.2.2)
def zxW : Nat -> Keep × Keep := anL []
def zBL (N : Nat) : List (Ent qP) := []
def ztD (N : Nat) : FSpec where
 X := RT7
 Y := Bool
 ad := .mk [.agg RK7] [] rfl
 ret := λ y => qR (AV.v (.bool y))
 t := λ x α k => (match (x.1 == 1) with | true => (k true) | false => (match (x.1 == 2) with | true => (k true) | false => (k (x.1 == 6))))
abbrev zg4 (N : Nat) (x : RT7) : Option (Bool) := (ztD N).d x
def ztC (N : Nat) : Ent qP := zG (zc qP) zf (zBL N) 68 Tryz.f68 Tryz.func68 zxW N [] (l := []) an (ztD N)
def zyA : Nat -> Keep × Keep := anL []
def zCa (N : Nat) : List (Ent qP) := [ztC N]
def zt5 (N : Nat) : FSpec where
 X := RT7 × RT7
 Y := Bool
 ad := .mk [.agg RK7, .agg RK7] [] rfl
 ret := λ y => qR (AV.v (.bool y))
 t := λ x α k => (match (x.1.1 == 1) with | true => (match zg4 N x.2 with | some y1 => (k y1) | none => none) | false => (match (x.1.1 == 2) with | true => (match (x.2.1 == 1) with | true => (k true) | false => (k (x.2.1 == 6))) | false => (match (x.1.1 == 6) with | true => (match zg4 N x.2 with | some y2 => (k (!y2)) | none => none) | false => (k true))))
abbrev zg9 (N : Nat) (x : RT7 × RT7) : Option (Bool) := (zt5 N).d x
def zB9 (N : Nat) : Ent qP := zG (zc qP) zf (zCa N) 93 Tryz.f93 Tryz.func93 zyA N [] (l := []) an (zt5 N)
def zyp : Nat -> Keep × Keep := anL []
def zBY (N : Nat) : List (Ent qP) := []
def ztV (N : Nat) : FSpec where
 X := Int
 Y := Bool
 ad := .mk [.int .i64] [] rfl
 ret := λ y => qR (AV.v (.bool y))
 t := λ x α k => (match (x != 1) with | true => (k (x != 3)) | false => (k false))
abbrev zfS (N : Nat) (x : Int) : Option (Bool) := (ztV N).d x
def zyq (N : Nat) : Ent qP := zG (zc qP) zf (zBY N) 85 Tryz.f85 Tryz.func85 zyp N [] (l := []) an (ztV N)
def zxF : Nat -> Keep × Keep := anL []
def zBy (N : Nat) : List (Ent qP) := [zx0 N]
def ztn (N : Nat) : FSpec where
 X := RT3 × RT3
 Y := Bool
 ad := .mk [.agg RK3, .agg RK3] [] rfl
 ret := λ y => qR (AV.v (.bool y))
 t := λ x α k => (match zjU N (x.1.1, x.2.1) with | some y1 => (match y1 with | true => (match (((x.1.2.1 == x.2.2.1) && ((x.1.2.2.1 == x.2.2.2.1) && ((x.1.2.2.2.1 == x.2.2.2.2.1) && true))) && ((x.1.2.2.2.2.1 == x.2.2.2.2.2.1) && ((x.1.2.2.2.2.2.1 == x.2.2.2.2.2.2.1) && ((x.1.2.2.2.2.2.2.1 == x.2.2.2.2.2.2.2.1) && ((((x.1.2.2.2.2.2.2.2.1 == x.2.2.2.2.2.2.2.2.1) && ((x.1.2.2.2.2.2.2.2.2.1 == x.2.2.2.2.2.2.2.2.2.1) && ((x.1.2.2.2.2.2.2.2.2.2.1 == x.2.2.2.2.2.2.2.2.2.2.1) && true))) && (((x.1.2.2.2.2.2.2.2.2.2.2.1 == x.2.2.2.2.2.2.2.2.2.2.2.1) && ((x.1.2.2.2.2.2.2.2.2.2.2.2.1 == x.2.2.2.2.2.2.2.2.2.2.2.2.1) && ((x.1.2.2.2.2.2.2.2.2.2.2.2.2.1 == x.2.2.2.2.2.2.2.2.2.2.2.2.2.1) && true))) && true)) && true))))) with | true => (match ((x.1.2.2.2.2.2.2.2.2.2.2.2.2.2.1 == x.2.2.2.2.2.2.2.2.2.2.2.2.2.2.1) && ((x.1.2.2.2.2.2.2.2.2.2.2.2.2.2.2.1 == x.2.2.2.2.2.2.2.2.2.2.2.2.2.2.2.1) && true)) with | true => (k (x.1.2.2.2.2.2.2.2.2.2.2.2.2.2.2.2.1 == x.2.2.2.2.2.2.2.2.2.2.2.2.2.2.2.2.1)) | false => (k false)) | false => (k false)) | false => (k false)) | none => none)
abbrev zo1 (N : Nat) (x : RT3 × RT3) : Option (Bool) := (ztn N).d x
def zxG (N : Nat) : Ent qP := zG (zc qP) zf (zBy N) 58 Tryz.f58 Tryz.func58 zxF N [] (l := []) an (ztn N)
def zxt : Nat -> Keep × Keep := anL []
def zBq (N : Nat) : List (Ent qP) := [zxG N]
def ztf (N : Nat) : FSpec where
 X := RT0 × RT0
 Y := Bool
 ad := .mk [.agg RK0, .agg RK0] [] rfl
 ret := λ y => qR (AV.v (.bool y))
 t := λ x α k => (match (((x.1.1 == x.2.1) && ((x.1.2.1 == x.2.2.1) && ((x.1.2.2.1 == x.2.2.2.1) && ((x.1.2.2.2.1 == x.2.2.2.2.1) && true)))) && ((x.1.2.2.2.2.1 == x.2.2.2.2.2.1) && ((x.1.2.2.2.2.2.1 == x.2.2.2.2.2.2.1) && ((x.1.2.2.2.2.2.2.1 == x.2.2.2.2.2.2.2.1) && ((x.1.2.2.2.2.2.2.2.1 == x.2.2.2.2.2.2.2.2.1) && ((x.1.2.2.2.2.2.2.2.2.1 == x.2.2.2.2.2.2.2.2.2.1) && true)))))) with | true => (match zo1 N ((zu x.1), (zu x.2)) with | some y1 => (k y1) | none => none) | false => (k false))
abbrev zb3 (N : Nat) (x : RT0 × RT0) : Option (Bool) := (ztf N).d x
def zte (N : Nat) : Ent qP := zG (zc qP) zf (zBq N) 49 Tryz.f49 Tryz.func49 zxt N [] (l := []) an (ztf N)
def zb8 : Nat -> Keep × Keep := anL [(4, qK [1, 2, 3, 7] [] [3], qK [3, 6] [] [3]), (16, ⟨[1, 2, 3, 7, 8], [], [3, 8], [], [], [], [], [], true, none, []⟩, qK [1, 2, 3, 6, 7, 8] [] [3, 8])]
def ztp (N : Nat) : List (Ent qP) := [zoT N, zyn N, zB9 N, zyq N, zte N]
def Z1 (N : Nat) : LSpec where
 X := Int × Int × Int × qL × RT7
 Y := (Int × Int × Bool × Int × qL × RT7) ⊕ (Int × Int × Int × qL × RT7)
 dt := .mk 147 0 (zb8 16).1.toks [(1, .int .i64), (2, .int .i64), (3, .ptr 3 0), (7, .int .i64), (8, .ptr 8 0)] [(3, .cells [.lst 29]), (8, .row RK7)] rfl
 od := .mk 147 0 (zb8 16).2.toks [⟨.ret, [(1, .int .i64), (2, .int .i64), (3, .ptr 3 0), (6, .bool), (7, .int .i64), (8, .ptr 8 0)], [(3, .cells [.lst 29]), (8, .row RK7)], none⟩, ⟨.normal, [(1, .int .i64), (2, .int .i64), (3, .ptr 3 0), (7, .int .i64), (8, .ptr 8 0)], [(3, .cells [.lst 29]), (8, .row RK7)], none⟩] rfl
 b := λ u16 α kn ke => (match (u16.2.2.2.2.1 == 1) with | true => (match (!(u16.2.2.2.2.2.2.1.toList == (⟨#[]⟩ : ByteArray).toList)) with | true => (ke (.inl (u16.1, u16.2.1, false, u16.2.2))) | false => (ke (.inr u16))) | false => (match (u16.2.2.2.2.1 == 2) with | true => (match (!(u16.2.2.2.2.2.2.1.toList == (⟨#[]⟩ : ByteArray).toList)) with | true => (ke (.inl (u16.1, u16.2.1, false, u16.2.2))) | false => (match (!(u16.2.2.2.2.1 == 2)) with | true => (match zjW N u16.2.2.2.2.2.2.1 with | some y8 => (match (!y8) with | true => (ke (.inl (u16.1, u16.2.1, false, u16.2.2))) | false => (ke (.inr u16))) | none => none) | false => (ke (.inr u16)))) | false => (match (!(u16.2.2.2.2.1 == 2)) with | true => (match zjW N u16.2.2.2.2.2.2.1 with | some y9 => (match (!y9) with | true => (ke (.inl (u16.1, u16.2.1, false, u16.2.2))) | false => (ke (.inr u16))) | none => none) | false => (ke (.inr u16)))))
abbrev zeA (N : Nat) (x : Int × Int × Int × qL × RT7) : Option ((Int × Int × Bool × Int × qL × RT7) ⊕ (Int × Int × Int × qL × RT7)) := (Z1 N).L N x
def zV (N : Nat) : LSpec where
 X := Int × Int × Int × qL
 Y := (Bool × qL) ⊕ (qL)
 dt := .mk 147 0 (zb8 4).1.toks [(1, .int .i64), (2, .int .i64), (3, .ptr 3 0), (7, .int .i64)] [(3, .cells [.lst 29])] rfl
 od := .mk 147 0 (zb8 4).2.toks [⟨.ret, [(3, .ptr 3 0), (6, .bool)], [(3, .cells [.lst 29])], none⟩, ⟨.exit 0, [(3, .ptr 3 0)], [(3, .cells [.lst 29])], none⟩] rfl
 b := λ u4 α kn ke => (match (decide (u4.2.2.1 < (u4.2.2.2.length : Int))) with | true => (if 0 <= u4.2.2.1 then (match u4.2.2.2[u4.2.2.1.toNat]? with | some c33 => (match zfw c33 with | some e34 => (match (decide (e34.1 < 1)) with | true => (ke (.inl (false, u4.2.2.2))) | false => (match (decide (e34.1 > 6)) with | true => (ke (.inl (false, u4.2.2.2))) | false => (match (decide (e34.2.1 < 0)) with | true => (ke (.inl (false, u4.2.2.2))) | false => (match (decide (e34.2.1 > 18014398509481984)) with | true => (ke (.inl (false, u4.2.2.2))) | false => (match zaF N ([(zl (zm e34))]) with | some y35 => (match (!y35) with | true => (ke (.inl (false, u4.2.2.2))) | false => (match zeA N (u4.1, u4.2.1, u4.2.2.1, u4.2.2.2, e34) with | some y36 => (match y36 with | .inl z37 => (ke (.inl (z37.2.2.1, z37.2.2.2.2.1))) | .inr z38 => (match (z38.2.2.2.2.1 != 5) with | true => (match (z38.2.2.2.2.2.2.2.1 != 0) with | true => (ke (.inl (false, z38.2.2.2.1))) | false => (match (z38.2.2.2.2.1 == 5) with | true => (match (decide (z38.2.2.2.2.2.2.2.1 < 0)) with | true => (ke (.inl (false, z38.2.2.2.1))) | false => (match (decide (z38.2.2.2.2.2.2.2.1 >= z38.2.1)) with | true => (ke (.inl (false, z38.2.2.2.1))) | false => (match (z38.2.2.2.2.2.2.2.1 == z38.1) with | true => (ke (.inl (false, z38.2.2.2.1))) | false => (match (z38.2.2.1 == 0) with | true => (match (z38.2.2.2.2.1 != 1) with | true => (ke (.inl (false, z38.2.2.2.1))) | false => (kn (z38.1, z38.2.1, (i64 (z38.2.2.1 + 1)), z38.2.2.2.1))) | false => (if 0 <= (i64 (z38.2.2.1 - 1)) then (match z38.2.2.2.1[(i64 (z38.2.2.1 - 1)).toNat]? with | some c39 => (match zfw c39 with | some e40 => (match (decide (z38.2.2.2.2.2.1 < e40.2.1)) with | true => (ke (.inl (false, z38.2.2.2.1))) | false => (match zg9 N (z38.2.2.2.2, e40) with | some y41 => (match (!y41) with | true => (ke (.inl (false, z38.2.2.2.1))) | false => (match zfS N z38.2.2.2.2.1 with | some y42 => (match y42 with | true => (match zb3 N ((zm e40), (zm z38.2.2.2.2)) with | some y43 => (match (!y43) with | true => (ke (.inl (false, z38.2.2.2.1))) | false => (kn (z38.1, z38.2.1, (i64 (z38.2.2.1 + 1)), z38.2.2.2.1))) | none => none) | false => (kn (z38.1, z38.2.1, (i64 (z38.2.2.1 + 1)), z38.2.2.2.1))) | none => none)) | none => none)) | none => none) | none => none) else none))))) | false => (match (z38.2.2.1 == 0) with | true => (match (z38.2.2.2.2.1 != 1) with | true => (ke (.inl (false, z38.2.2.2.1))) | false => (kn (z38.1, z38.2.1, (i64 (z38.2.2.1 + 1)), z38.2.2.2.1))) | false => (if 0 <= (i64 (z38.2.2.1 - 1)) then (match z38.2.2.2.1[(i64 (z38.2.2.1 - 1)).toNat]? with | some c44 => (match zfw c44 with | some e45 => (match (decide (z38.2.2.2.2.2.1 < e45.2.1)) with | true => (ke (.inl (false, z38.2.2.2.1))) | false => (match zg9 N (z38.2.2.2.2, e45) with | some y46 => (match (!y46) with | true => (ke (.inl (false, z38.2.2.2.1))) | false => (match zfS N z38.2.2.2.2.1 with | some y47 => (match y47 with | true => (match zb3 N ((zm e45), (zm z38.2.2.2.2)) with | some y48 => (match (!y48) with | true => (ke (.inl (false, z38.2.2.2.1))) | false => (kn (z38.1, z38.2.1, (i64 (z38.2.2.1 + 1)), z38.2.2.2.1))) | none => none) | false => (kn (z38.1, z38.2.1, (i64 (z38.2.2.1 + 1)), z38.2.2.2.1))) | none => none)) | none => none)) | none => none) | none => none) else none)))) | false => (match (z38.2.2.2.2.1 == 5) with | true => (match (decide (z38.2.2.2.2.2.2.2.1 < 0)) with | true => (ke (.inl (false, z38.2.2.2.1))) | false => (match (decide (z38.2.2.2.2.2.2.2.1 >= z38.2.1)) with | true => (ke (.inl (false, z38.2.2.2.1))) | false => (match (z38.2.2.2.2.2.2.2.1 == z38.1) with | true => (ke (.inl (false, z38.2.2.2.1))) | false => (match (z38.2.2.1 == 0) with | true => (match (z38.2.2.2.2.1 != 1) with | true => (ke (.inl (false, z38.2.2.2.1))) | false => (kn (z38.1, z38.2.1, (i64 (z38.2.2.1 + 1)), z38.2.2.2.1))) | false => (if 0 <= (i64 (z38.2.2.1 - 1)) then (match z38.2.2.2.1[(i64 (z38.2.2.1 - 1)).toNat]? with | some c49 => (match zfw c49 with | some e50 => (match (decide (z38.2.2.2.2.2.1 < e50.2.1)) with | true => (ke (.inl (false, z38.2.2.2.1))) | false => (match zg9 N (z38.2.2.2.2, e50) with | some y51 => (match (!y51) with | true => (ke (.inl (false, z38.2.2.2.1))) | false => (match zfS N z38.2.2.2.2.1 with | some y52 => (match y52 with | true => (match zb3 N ((zm e50), (zm z38.2.2.2.2)) with | some y53 => (match (!y53) with | true => (ke (.inl (false, z38.2.2.2.1))) | false => (kn (z38.1, z38.2.1, (i64 (z38.2.2.1 + 1)), z38.2.2.2.1))) | none => none) | false => (kn (z38.1, z38.2.1, (i64 (z38.2.2.1 + 1)), z38.2.2.2.1))) | none => none)) | none => none)) | none => none) | none => none) else none))))) | false => (match (z38.2.2.1 == 0) with | true => (match (z38.2.2.2.2.1 != 1) with | true => (ke (.inl (false, z38.2.2.2.1))) | false => (kn (z38.1, z38.2.1, (i64 (z38.2.2.1 + 1)), z38.2.2.2.1))) | false => (if 0 <= (i64 (z38.2.2.1 - 1)) then (match z38.2.2.2.1[(i64 (z38.2.2.1 - 1)).toNat]? with | some c54 => (match zfw c54 with | some e55 => (match (decide (z38.2.2.2.2.2.1 < e55.2.1)) with | true => (ke (.inl (false, z38.2.2.2.1))) | false => (match zg9 N (z38.2.2.2.2, e55) with | some y56 => (match (!y56) with | true => (ke (.inl (false, z38.2.2.2.1))) | false => (match zfS N z38.2.2.2.2.1 with | some y57 => (match y57 with | true => (match zb3 N ((zm e55), (zm z38.2.2.2.2)) with | some y58 => (match (!y58) with | true => (ke (.inl (false, z38.2.2.2.1))) | false => (kn (z38.1, z38.2.1, (i64 (z38.2.2.1 + 1)), z38.2.2.2.1))) | none => none) | false => (kn (z38.1, z38.2.1, (i64 (z38.2.2.1 + 1)), z38.2.2.2.1))) | none => none)) | none => none)) | none => none) | none => none) else none))))) | none => none)) | none => none))))) | none => none) | none => none) else none) | false => (ke (.inr u4.2.2.2)))
abbrev zro (N : Nat) (x : Int × Int × Int × qL) : Option ((Bool × qL) ⊕ (qL)) := (zV N).L N x
def ztq (N : Nat) : FSpec where
 X := qL × Int × Int
 Y := Bool
 ad := .mk [.ags [.sl 29], .int .i64, .int .i64] [] rfl
 ret := λ y => qR (AV.v (.bool y))
 t := λ x α k => (match zro N (x.2.1, x.2.2, 0, x.1) with | some y59 => (match y59 with | .inl z60 => (k z60.1) | .inr z61 => (match (decide ((z61.length : Int) >= 1)) with | true => (k (decide ((z61.length : Int) <= 100))) | false => (k false))) | none => none)
abbrev zto (N : Nat) (x : qL × Int × Int) : Option (Bool) := (ztq N).d x
def zmi (N : Nat) : List (Nat × LSpec) := [(4, zV N), (16, Z1 N)]
def zmg : Code := Tryz.f60.body.getD .skip
theorem zdP (N : Nat) : zP qP zb8 N (zmi N) 16 (zb 16 zmg) :=
 Jn (zc qP) zf (ztp N) (l := []) an (Z1 N)
theorem zmh (N : Nat) : zP qP zb8 N (zmi N) 4 (zb 4 zmg) :=
 zy (zc qP) zf (ztp N) (l := [(16, zb 16 zmg)]) (al (zdP N) an) (zV N)
def zBC (N : Nat) : Ent qP := zG (zc qP) zf (ztp N) 60 Tryz.f60 Tryz.func60 zb8 N (zmi N) (l := [(4, zb 4 zmg), (16, zb 16 zmg)]) (al (zmh N) (al (zdP N) an)) (ztq N)
def zh5 : Nat -> Keep × Keep := anL [(4, qK [1, 3] [] [1], qK [1, 2] [] [1])]
def zw3 (N : Nat) : List (Ent qP) := [zBC N]
def jN (N : Nat) : LSpec where
 X := Int × qL
 Y := (Bool × qL) ⊕ (qL)
 dt := .mk 26 0 (zh5 4).1.toks [(1, .ptr 1 0), (3, .int .i64)] [(1, .cells [.lst 1])] rfl
 od := .mk 26 0 (zh5 4).2.toks [⟨.ret, [(1, .ptr 1 0), (2, .bool)], [(1, .cells [.lst 1])], none⟩, ⟨.exit 0, [(1, .ptr 1 0)], [(1, .cells [.lst 1])], none⟩] rfl
 b := λ u4 α kn ke => (match (decide (u4.1 < (u4.2.length : Int))) with | true => (if 0 <= u4.1 then (match u4.2[u4.1.toNat]? with | some c4 => (match zbr c4 with | some e5 => (match zto N (e5.1, u4.1, (u4.2.length : Int)) with | some y6 => (match (!y6) with | true => (ke (.inl (false, u4.2))) | false => (kn ((i64 (u4.1 + 1)), u4.2))) | none => none) | none => none) | none => none) else none) | false => (ke (.inr u4.2)))
abbrev zra (N : Nat) (x : Int × qL) : Option ((Bool × qL) ⊕ (qL)) := (jN N).L N x
def zsT (N : Nat) : FSpec where
 X := qL
 Y := Bool
 ad := .mk [.ags [.sl 1]] [] rfl
 ret := λ y => qR (AV.v (.bool y))
 t := λ x α k => (match zra N (0, x) with | some y7 => (match y7 with | .inl z8 => (k z8.1) | .inr z9 => (k (decide ((z9.length : Int) <= 500)))) | none => none)
abbrev zfK (N : Nat) (x : qL) : Option (Bool) := (zsT N).d x
def zrb (N : Nat) : List (Nat × LSpec) := [(4, jN N)]
def zw2 : Code := Tryz.f32.body.getD .skip
theorem zly (N : Nat) : zP qP zh5 N (zrb N) 4 (zb 4 zw2) :=
 zy (zc qP) zf (zw3 N) (l := []) an (jN N)
def zlx (N : Nat) : Ent qP := zG (zc qP) zf (zw3 N) 32 Tryz.f32 Tryz.func32 zh5 N (zrb N) (l := [(4, zb 4 zw2)]) (al (zly N) an) (zsT N)
def zio : Nat -> Keep × Keep := anL [(4, ⟨[3, 5], [], [3], [(0, 25)], [], [], [], [], false, none, []⟩, qK [4] [] [])]
def zyc (N : Nat) : List (Ent qP) := []
def Z4 (N : Nat) : LSpec where
 X := qL × Int × RT1
 Y := (Int) ⊕ (Unit)
 dt := .mk 20 0 (zio 4).1.toks [(0, .lst 25), (3, .ptr 3 0), (5, .int .i64)] [(3, .row RK1)] rfl
 od := .mk 20 0 (zio 4).2.toks [⟨.ret, [(4, .int .i64)], [], none⟩, ⟨.exit 0, [], [], none⟩] rfl
 b := λ u4 α kn ke => (match (decide (u4.2.1 < (u4.1.length : Int))) with | true => (if 0 <= u4.2.1 then (match u4.1[u4.2.1.toNat]? with | some c1 => (match jk (c1.drop 0) with | some e2 => (match (((e2.1 == u4.2.2.1) && ((e2.2.1 == u4.2.2.2.1) && ((e2.2.2.1 == u4.2.2.2.2.1) && ((e2.2.2.2.1 == u4.2.2.2.2.2.1) && true)))) && ((e2.2.2.2.2.1 == u4.2.2.2.2.2.2.1) && ((e2.2.2.2.2.2.1 == u4.2.2.2.2.2.2.2.1) && ((e2.2.2.2.2.2.2.1 == u4.2.2.2.2.2.2.2.2.1) && ((e2.2.2.2.2.2.2.2.1 == u4.2.2.2.2.2.2.2.2.2.1) && ((e2.2.2.2.2.2.2.2.2.1 == u4.2.2.2.2.2.2.2.2.2.2.1) && true)))))) with | true => (ke (.inl u4.2.1)) | false => (kn (u4.1, (i64 (u4.2.1 + 1)), u4.2.2))) | none => none) | none => none) else none) | false => (ke (.inr ())))
abbrev zrH (N : Nat) (x : qL × Int × RT1) : Option ((Int) ⊕ (Unit)) := (Z4 N).L N x
def ztR (N : Nat) : FSpec where
 X := qL × RT1
 Y := Int
 ad := .mk [.lst 25, .agg RK1] [] rfl
 ret := λ y => qR (AV.v (.int .i64 y))
 t := λ x α k => (match zrH N (x.1, 0, x.2) with | some y3 => (match y3 with | .inl z4 => (k z4) | .inr z5 => (k (-1))) | none => none)
abbrev zmJ (N : Nat) (x : qL × RT1) : Option (Int) := (ztR N).d x
def zrI (N : Nat) : List (Nat × LSpec) := [(4, Z4 N)]
def zya : Code := Tryz.f79.body.getD .skip
theorem zmK (N : Nat) : zP qP zio N (zrI N) 4 (zb 4 zya) :=
 zy (zc qP) zf (zyc N) (l := []) an (Z4 N)
def zyb (N : Nat) : Ent qP := zG (zc qP) zf (zyc N) 79 Tryz.f79 Tryz.func79 zio N (zrI N) (l := [(4, zb 4 zya)]) (al (zmK N) an) (ztR N)
def zxS : Nat -> Keep × Keep := anL []
def zBK (N : Nat) : List (Ent qP) := []
def ztA (N : Nat) : FSpec where
 X := qL
 Y := RT7
 ad := .mk [.ags [.sl 29]] [] rfl
 S := ⟨[[none, none, none, none, none, none, none, none, none, none, none, none, none, some 9, none, none, none, none, none, none, none, none, none, none, none, none, none, none, none]], [], [], [], []⟩
 ret := λ y => qR (AV.agg (zo y))
 t := λ x α k => (if 0 <= (i64 ((x.length : Int) - 1)) then (match x[(i64 ((x.length : Int) - 1)).toNat]? with | some c1 => (match zfw c1 with | some e2 => (k e2) | none => none) | none => none) else none)
abbrev zdd (N : Nat) (x : qL) : Option (RT7) := (ztA N).d x
def zjS (N : Nat) : Ent qP := zG (zc qP) zf (zBK N) 66 Tryz.f66 Tryz.func66 zxS N [] (l := []) an (ztA N)
@[reducible] def zhb (e : RT7) : RT1 := (e.2.2.2.2.1, e.2.2.2.2.2.1, e.2.2.2.2.2.2.1, e.2.2.2.2.2.2.2.1, e.2.2.2.2.2.2.2.2.1, e.2.2.2.2.2.2.2.2.2.1, e.2.2.2.2.2.2.2.2.2.2.1, e.2.2.2.2.2.2.2.2.2.2.2.1, e.2.2.2.2.2.2.2.2.2.2.2.2.1, ())
def zce : Nat -> Keep × Keep := anL [(4, ⟨[5], [], [], [(0, 9), (1, 9)], [], [], [], [], false, none, []⟩, qK [4] [] []), (12, ⟨[5, 6], [], [], [(0, 9), (1, 9)], [], [], [], [], false, none, []⟩, ⟨[4, 5], [], [], [(0, 9), (1, 9)], [], [], [], [], false, none, []⟩)]
def ztT (N : Nat) : List (Ent qP) := []
def zg8 (N : Nat) : LSpec where
 X := qL × qL × Int × Int
 Y := (qL × qL × Bool × Int) ⊕ (qL × qL × Int)
 dt := .mk 28 0 (zce 12).1.toks [(0, .lst 9), (1, .lst 9), (5, .int .i64), (6, .int .i64)] [] rfl
 od := .mk 28 0 (zce 12).2.toks [⟨.ret, [(0, .lst 9), (1, .lst 9), (4, .bool), (5, .int .i64)], [], none⟩, ⟨.exit 2, [(0, .lst 9), (1, .lst 9), (5, .int .i64)], [], none⟩] rfl
 b := λ u12 α kn ke => (match (decide (u12.2.2.2 < (u12.2.1.length : Int))) with | true => (if 0 <= u12.2.2.1 then (match u12.1[u12.2.2.1.toNat]? with | some c1 => (match jk c1 with | some e2 => (if 0 <= u12.2.2.2 then (match u12.2.1[u12.2.2.2.toNat]? with | some c3 => (match jk c3 with | some e4 => (match (((e2.1 == e4.1) && ((e2.2.1 == e4.2.1) && ((e2.2.2.1 == e4.2.2.1) && ((e2.2.2.2.1 == e4.2.2.2.1) && true)))) && ((e2.2.2.2.2.1 == e4.2.2.2.2.1) && ((e2.2.2.2.2.2.1 == e4.2.2.2.2.2.1) && ((e2.2.2.2.2.2.2.1 == e4.2.2.2.2.2.2.1) && ((e2.2.2.2.2.2.2.2.1 == e4.2.2.2.2.2.2.2.1) && ((e2.2.2.2.2.2.2.2.2.1 == e4.2.2.2.2.2.2.2.2.1) && true)))))) with | true => (ke (.inl (u12.1, u12.2.1, true, u12.2.2.1))) | false => (kn (u12.1, u12.2.1, u12.2.2.1, (i64 (u12.2.2.2 + 1))))) | none => none) | none => none) else none) | none => none) | none => none) else none) | false => (ke (.inr (u12.1, u12.2.1, u12.2.2.1))))
abbrev ztS (N : Nat) (x : qL × qL × Int × Int) : Option ((qL × qL × Bool × Int) ⊕ (qL × qL × Int)) := (zg8 N).L N x
def zmN (N : Nat) : LSpec where
 X := qL × qL × Int
 Y := (Bool) ⊕ (Unit)
 dt := .mk 28 0 (zce 4).1.toks [(0, .lst 9), (1, .lst 9), (5, .int .i64)] [] rfl
 od := .mk 28 0 (zce 4).2.toks [⟨.ret, [(4, .bool)], [], none⟩, ⟨.exit 0, [], [], none⟩] rfl
 b := λ u4 α kn ke => (match (decide (u4.2.2 < (u4.1.length : Int))) with | true => (match ztS N (u4.1, u4.2.1, u4.2.2, 0) with | some y5 => (match y5 with | .inl z6 => (ke (.inl z6.2.2.1)) | .inr z7 => (kn (z7.1, z7.2.1, (i64 (z7.2.2 + 1))))) | none => none) | false => (ke (.inr ())))
abbrev zyd (N : Nat) (x : qL × qL × Int) : Option ((Bool) ⊕ (Unit)) := (zmN N).L N x
def zyf (N : Nat) : FSpec where
 X := qL × qL
 Y := Bool
 ad := .mk [.lst 9, .lst 9] [] rfl
 ret := λ y => qR (AV.v (.bool y))
 t := λ x α k => (match zyd N (x.1, x.2, 0) with | some y8 => (match y8 with | .inl z9 => (k z9) | .inr z10 => (k false)) | none => none)
abbrev zmM (N : Nat) (x : qL × qL) : Option (Bool) := (zyf N).d x
def zmP (N : Nat) : List (Nat × LSpec) := [(4, zmN N), (12, zg8 N)]
def zmL : Code := Tryz.f80.body.getD .skip
theorem zdW (N : Nat) : zP qP zce N (zmP N) 12 (zb 12 zmL) :=
 zy (zc qP) zf (ztT N) (l := []) an (zg8 N)
theorem zmO (N : Nat) : zP qP zce N (zmP N) 4 (zb 4 zmL) :=
 zy (zc qP) zf (ztT N) (l := [(12, zb 12 zmL)]) (al (zdW N) an) (zmN N)
def zye (N : Nat) : Ent qP := zG (zc qP) zf (ztT N) 80 Tryz.f80 Tryz.func80 zce N (zmP N) (l := [(4, zb 4 zmL), (12, zb 12 zmL)]) (al (zmO N) (al (zdW N) an)) (zyf N)
def zeB : Nat -> Keep × Keep := anL [(4, ⟨[0, 1, 5], [], [0], [], [], [], [], [0], false, none, []⟩, ⟨[4], [], [0], [], [], [], [], [0], false, none, []⟩)]
def zrw (N : Nat) : List (Ent qP) := []
def Zv (N : Nat) : LSpec where
 X := Nat × Int × Int × qA
 Y := (Bool × qA) ⊕ (qA)
 dt := .mk 18 1 (zeB 4).1.toks [(0, .vs0 0 1), (1, .int .i64), (5, .int .i64)] [(0, .tt)] rfl
 od := .mk 18 1 (zeB 4).2.toks [⟨.ret, [(4, .bool)], [(0, .tt)], none⟩, ⟨.exit 0, [], [(0, .tt)], none⟩] rfl
 b := λ u4 α kn ke => (match (decide (u4.2.2.1 < ((u4.1 : Nat) : Int))) with | true => (if 0 <= u4.2.2.1 /\ u4.2.2.1 < (u4.1 : Int) then (match u4.2.2.2[((0 + u4.2.2.1.toNat) * 1)]? with | some x4 => (match x4 with | .v (.int q6 n5) => (if q6 = .i64 then (match (n5 == u4.2.1) with | true => (ke (.inl (true, (u4.2.2.2.map dat0)))) | false => (kn (u4.1, u4.2.1, (i64 (u4.2.2.1 + 1)), (u4.2.2.2.map dat0)))) else none) | _ => none) | none => none) else none) | false => (ke (.inr (u4.2.2.2.map dat0))))
abbrev zmm (N : Nat) (x : Nat × Int × Int × qA) : Option ((Bool × qA) ⊕ (qA)) := (Zv N).L N x
def zmp (N : Nat) : FSpec where
 X := Nat × Int × qA
 Y := Bool × qA
 ad := .mk [.vs0 0 1, .int .i64] [.tt] rfl
 bsh := [[]]
 S := ⟨[[none]], [[]], [], [], [0]⟩
 ret := λ y => ⟨(AV.v (.bool y.1)), [y.2], none, [], [], [0], none⟩
 t := λ x α k => (match zmm N (x.1, x.2.1, 0, (x.2.2.map dat0)) with | some y7 => (match y7 with | .inl z8 => (k (z8.1, (z8.2.map dat0))) | .inr z9 => (k (false, (z9.map dat0)))) | none => none)
abbrev zb9 (N : Nat) (x : Nat × Int × qA) : Option (Bool × qA) := (zmp N).d x
def zmo (N : Nat) : List (Nat × LSpec) := [(4, Zv N)]
def zrv : Code := Tryz.f69.body.getD .skip
theorem zjT (N : Nat) : zP qP zeB N (zmo N) 4 (zb 4 zrv) :=
 zy (zc qP) zf (zrw N) (l := []) an (Zv N)
def zmn (N : Nat) : Ent qP := zG (zc qP) zf (zrw N) 69 Tryz.f69 Tryz.func69 zeB N (zmo N) (l := [(4, zb 4 zrv)]) (al (zjT N) an) (zmp N)
def JJ : Nat -> Keep × Keep := anF [(5, ⟨[2, 6], [], [2], [(1, 25)], [], [(5, 1)], [], [], false, none, []⟩, ⟨[2], [], [2], [(1, 25)], [], [(5, 1)], [], [], false, none, []⟩), (18, ⟨[2, 5, 8], [], [2, 1000005], [(1, 25)], [], [], [], [1000005], false, none, []⟩, ⟨[5], [], [1000005], [], [], [], [], [1000005], false, none, []⟩), (26, ⟨[2, 5, 8, 9], [], [2, 1000005], [(1, 25)], [], [], [], [1000005], false, none, []⟩, ⟨[2, 5, 8], [], [2, 1000005], [(1, 25)], [], [], [], [1000005], false, none, []⟩)] [(100017, ([5], []))]
def zoU (N : Nat) : List (Ent qP) := [zjS N, zyb N, zmn N, zye N]
def zgW (N : Nat) : LSpec where
 X := qL × Nat × Int × Int × qL × qA
 Y := (qL × Nat × Int × qL × qA)
 dt := .mk 81 0 (JJ 26).1.toks [(1, .lst 25), (2, .ptr 2 0), (5, .vs0 1000005 1), (8, .int .i64), (9, .int .i64)] [(2, .cells [.lst 1]), (1000005, .tt)] rfl
 od := .mk 81 0 (JJ 26).2.toks [⟨.exit 4, [(1, .lst 25), (2, .ptr 2 0), (5, .vs0 1000005 1), (8, .int .i64)], [(2, .cells [.lst 1]), (1000005, .tt)], none⟩] rfl
 b := λ u26 α kn ke => (match (decide (u26.2.2.2.1 < (u26.1.length : Int))) with | true => (if 0 <= u26.2.2.1 /\ u26.2.2.1 < (u26.2.1 : Int) then (match u26.2.2.2.2.2[((0 + u26.2.2.1.toNat) * 1)]? with | some x23 => (match x23 with | .v (.int q25 n24) => (if q25 = .i64 then (match (decide (n24 < 0)) with | true => (match zb9 N (u26.2.1, u26.2.2.2.1, (u26.2.2.2.2.2.map dat0)) with | some y26 => (match (!y26.1) with | true => (if 0 <= u26.2.2.1 then (match u26.2.2.2.2.1[u26.2.2.1.toNat]? with | some c27 => (match zbr c27 with | some e28 => (match zdd N e28.1 with | some y29 => (if 0 <= u26.2.2.2.1 then (match u26.1[u26.2.2.2.1.toNat]? with | some c30 => (match ((c30.drop 9).drop 0)[0]? with | some x31 => (match Zf 9 x31 with | some l32 => (match zmM N (y29.2.2.2.2.2.2.2.2.2.2.2.2.2.1, l32) with | some y33 => (match y33 with | true => (if 0 <= u26.2.2.1 /\ u26.2.2.1 < (u26.2.1 : Int) then (if ((0 + u26.2.2.1.toNat) * 1) + 1 <= y26.2.length then (kn (u26.1, u26.2.1, u26.2.2.1, (i64 (u26.2.2.2.1 + 1)), u26.2.2.2.2.1, ((splice y26.2 ((0 + u26.2.2.1.toNat) * 1) [(AV.v (.int .i64 u26.2.2.2.1))]).map dat0))) else none) else none) | false => (kn (u26.1, u26.2.1, u26.2.2.1, (i64 (u26.2.2.2.1 + 1)), u26.2.2.2.2.1, (y26.2.map dat0)))) | none => none) | none => none) | none => none) | none => none) else none) | none => none) | none => none) | none => none) else none) | false => (kn (u26.1, u26.2.1, u26.2.2.1, (i64 (u26.2.2.2.1 + 1)), u26.2.2.2.2.1, (y26.2.map dat0)))) | none => none) | false => (ke (u26.1, u26.2.1, u26.2.2.1, u26.2.2.2.2.1, (u26.2.2.2.2.2.map dat0)))) else none) | _ => none) | none => none) else none) | false => (ke (u26.1, u26.2.1, u26.2.2.1, u26.2.2.2.2.1, (u26.2.2.2.2.2.map dat0))))
abbrev zs2 (N : Nat) (x : qL × Nat × Int × Int × qL × qA) : Option ((qL × Nat × Int × qL × qA)) := (zgW N).L N x
def zgV (N : Nat) : LSpec where
 X := qL × Nat × Int × qL × qA
 Y := (Nat × qA)
 dt := .mk 81 0 (JJ 18).1.toks [(1, .lst 25), (2, .ptr 2 0), (5, .vs0 1000005 1), (8, .int .i64)] [(2, .cells [.lst 1]), (1000005, .tt)] rfl
 od := .mk 81 0 (JJ 18).2.toks [⟨.exit 2, [(5, .vs0 1000005 1)], [(1000005, .tt)], none⟩] rfl
 b := λ u18 α kn ke => (match (decide (u18.2.2.1 < (u18.2.2.2.1.length : Int))) with | true => (match zs2 N (u18.1, u18.2.1, u18.2.2.1, 0, u18.2.2.2.1, (u18.2.2.2.2.map dat0)) with | some y35 => (kn (y35.1, y35.2.1, (i64 (y35.2.2.1 + 1)), y35.2.2.2.1, (y35.2.2.2.2.map dat0))) | none => none) | false => (ke (u18.2.1, (u18.2.2.2.2.map dat0))))
abbrev zlN (N : Nat) (x : qL × Nat × Int × qL × qA) : Option ((Nat × qA)) := (zgV N).L N x
def zlO (N : Nat) : LSpec where
 X := Nat × qL × Int × qL × qA
 Y := (Nat × qL × qL × qA)
 dt := .mk 81 0 (JJ 5).1.toks [(5, .vs0 1000005 1), (1, .lst 25), (2, .ptr 2 0), (6, .int .i64)] [(2, .cells [.lst 1]), (1000005, .tt)] rfl
 od := .mk 81 0 (JJ 5).2.toks [⟨.exit 0, [(5, .vs0 1000005 1), (1, .lst 25), (2, .ptr 2 0)], [(2, .cells [.lst 1]), (1000005, .tt)], none⟩] rfl
 b := λ u5 α kn ke => (match (decide (u5.2.2.1 < (u5.2.2.2.1.length : Int))) with | true => (if 0 <= u5.2.2.1 then (match u5.2.2.2.1[u5.2.2.1.toNat]? with | some c6 => (match zbr c6 with | some e7 => (match zdd N e7.1 with | some y8 => (match zmJ N (u5.2.1, (zhb y8)) with | some y9 => (match zb9 N (u5.1, y9, (u5.2.2.2.2.map dat0)) with | some y10 => (match y10.1 with | true => (if u5.1 * 1 <= y10.2.length /\ (u5.1 + [[(AV.v (.int .i64 (-1)))]].length) * 8 <= zd then (kn ((u5.1 + [[(AV.v (.int .i64 (-1)))]].length), u5.2.1, (i64 (u5.2.2.1 + 1)), u5.2.2.2.1, ((y10.2.take (u5.1 * 1) ++ [[(AV.v (.int .i64 (-1)))]].flatten).map dat0))) else none) | false => (if u5.1 * 1 <= y10.2.length /\ (u5.1 + [[(AV.v (.int .i64 y9))]].length) * 8 <= zd then (kn ((u5.1 + [[(AV.v (.int .i64 y9))]].length), u5.2.1, (i64 (u5.2.2.1 + 1)), u5.2.2.2.1, ((y10.2.take (u5.1 * 1) ++ [[(AV.v (.int .i64 y9))]].flatten).map dat0))) else none)) | none => none) | none => none) | none => none) | none => none) | none => none) else none) | false => (ke (u5.1, u5.2.1, u5.2.2.2.1, (u5.2.2.2.2.map dat0))))
abbrev zri (N : Nat) (x : Nat × qL × Int × qL × qA) : Option ((Nat × qL × qL × qA)) := (zlO N).L N x
def zs3 (N : Nat) : FSpec where
 X := qL × qL
 Y := qL
 ad := .mk [.ags [.sl 1], .lst 25] [] rfl
 S := ⟨[[some 2000001]], [], [], [], []⟩
 ret := λ y => ⟨(AV.list 1 y (some 2560000000)), [], none, [], [2560000000], [], none⟩
 t := λ x α k => (match zri N (0, x.2, 0, x.1, ([] : List AV)) with | some y11 => (match zlN N (y11.2.1, y11.1, 0, y11.2.2.1, (y11.2.2.2.map dat0)) with | some y36 => (if y36.1 * 1 <= y36.2.length then (k (zp (y36.2.take (y36.1 * 1)) 1 y36.1)) else none) | none => none) | none => none)
abbrev zs1 (N : Nat) (x : qL × qL) : Option (qL) := (zs3 N).d x
def zia (N : Nat) : List (Nat × LSpec) := [(5, zlO N), (18, zgV N), (26, zgW N)]
def zgU : Code := Tryz.f41.body.getD .skip
theorem zdJ (N : Nat) : zP qP JJ N (zia N) 26 (zb 26 zgU) :=
 zy (zr qP [33]) zf (zoU N) (l := []) an (zgW N)
theorem zjI (N : Nat) : zP qP JJ N (zia N) 18 (zb 18 zgU) :=
 zy (zr qP [33]) zf (zoU N) (l := [(26, zb 26 zgU)]) (al (zdJ N) an) (zgV N)
theorem zlP (N : Nat) : zP qP JJ N (zia N) 5 (zb 5 zgU) :=
 zy (zr qP [33]) zf (zoU N) (l := []) an (zlO N)
def zBf (N : Nat) : Ent qP := zG (zr qP [33]) zf (zoU N) 41 Tryz.f41 Tryz.func41 JJ N (zia N) (l := [(5, zb 5 zgU), (18, zb 18 zgU), (26, zb 26 zgU)]) (al (zlP N) (al (zjI N) (al (zdJ N) an))) (zs3 N)
def zik : Nat -> Keep × Keep := anL [(4, qK [1, 2, 5] [] [2], qK [4] [] [])]
def zxV (N : Nat) : List (Ent qP) := [zjS N]
def jO (N : Nat) : LSpec where
 X := Int × Int × qL
 Y := (Bool) ⊕ (Unit)
 dt := .mk 22 0 (zik 4).1.toks [(1, .int .i64), (2, .ptr 2 0), (5, .int .i64)] [(2, .cells [.lst 1])] rfl
 od := .mk 22 0 (zik 4).2.toks [⟨.ret, [(4, .bool)], [], none⟩, ⟨.exit 0, [], [], none⟩] rfl
 b := λ u4 α kn ke => (match (decide (u4.2.1 < (u4.2.2.length : Int))) with | true => (if 0 <= u4.2.1 then (match u4.2.2[u4.2.1.toNat]? with | some c1 => (match zbr c1 with | some e2 => (match zdd N e2.1 with | some y3 => (match (decide (y3.2.1 > u4.1)) with | true => (ke (.inl false)) | false => (kn (u4.1, (i64 (u4.2.1 + 1)), u4.2.2))) | none => none) | none => none) | none => none) else none) | false => (ke (.inr ())))
abbrev zrt (N : Nat) (x : Int × Int × qL) : Option ((Bool) ⊕ (Unit)) := (jO N).L N x
def ztB (N : Nat) : FSpec where
 X := qL × Int
 Y := Bool
 ad := .mk [.ags [.sl 1], .int .i64] [] rfl
 ret := λ y => qR (AV.v (.bool y))
 t := λ x α k => (match zrt N (x.2, 0, x.1) with | some y4 => (match y4 with | .inl z5 => (k z5) | .inr z6 => (k true)) | none => none)
abbrev zo5 (N : Nat) (x : qL × Int) : Option (Bool) := (ztB N).d x
def zru (N : Nat) : List (Nat × LSpec) := [(4, jO N)]
def zxT : Code := Tryz.f67.body.getD .skip
theorem zml (N : Nat) : zP qP zik N (zru N) 4 (zb 4 zxT) :=
 zy (zc qP) zf (zxV N) (l := []) an (jO N)
def zxU (N : Nat) : Ent qP := zG (zc qP) zf (zxV N) 67 Tryz.f67 Tryz.func67 zik N (zru N) (l := [(4, zb 4 zxT)]) (al (zml N) an) (ztB N)
end
end
section
noncomputable section
open Go.RowKit
set_option maxRecDepth 4000
set_option maxHeartbeats 4000000
def zie : Nat -> Keep × Keep := anL [(5, ⟨[1, 2, 3, 4], [], [1, 2, 3], [], [((2, 0), 1), ((3, 0), 1)], [], [], [], false, none, []⟩, ⟨[2, 3], [], [2, 3], [], [((2, 0), 1), ((3, 0), 1)], [], [], [], false, none, []⟩)]
def zxl (N : Nat) : List (Ent qP) := []
def zlT (N : Nat) : LSpec where
 X := Int × qL × qL × qL
 Y := (qL × qL)
 dt := .mk 27 0 (zie 5).1.toks [(1, .ptr 1 0), (2, .ptr 2 0), (3, .ptr 3 0), (4, .int .i64)] [(1, .cells [.lst 1]), (2, .cells [.tok 1 6400524288]), (3, .cells [.tok 1 6400786432])] rfl
 od := .mk 27 0 (zie 5).2.toks [⟨.exit 0, [(2, .ptr 2 0), (3, .ptr 3 0)], [(2, .cells [.tok 1 6400524288]), (3, .cells [.tok 1 6400786432])], none⟩] rfl
 b := λ u5 α kn ke => (match (decide (u5.1 < (u5.2.1.length : Int))) with | true => (if 0 <= u5.1 then (match u5.2.1[u5.1.toNat]? with | some c4 => (match (c4.drop 0)[0]? with | some x5 => (match Zf 29 x5 with | some l6 => (if (([] : qL).length + l6.length) * 288 <= zd then (if (u5.2.2.2.length + [[(AV.list 29 (([] : qL) ++ l6) none)]].length) * 24 <= zd then (kn ((i64 (u5.1 + 1)), u5.2.1, u5.2.2.1, (u5.2.2.2 ++ [[(AV.list 29 (([] : qL) ++ l6) none)]]))) else none) else none) | none => none) | none => none) | none => none) else none) | false => (ke u5.2.2))
abbrev zxk (N : Nat) (x : Int × qL × qL × qL) : Option ((qL × qL)) := (zlT N).L N x
def zBk (N : Nat) : FSpec where
 X := qL
 Y := qL
 ad := .mk [.ags [.sl 1]] [] rfl
 S := ⟨[[some 1]], [], [], [], []⟩
 ret := λ y => qR (AV.agg [(AV.list 1 y none)])
 t := λ x α k => (match zxk N (0, x, ([] : qL), ([] : qL)) with | some y7 => (k y7.2) | none => none)
def zrj (N : Nat) : List (Nat × LSpec) := [(5, zlT N)]
def zxj : Code := Tryz.f44.body.getD .skip
theorem zlU (N : Nat) : zP qP zie N (zrj N) 5 (zb 5 zxj) :=
 zy (zc qP) zf (zxl N) (l := []) an (zlT N)
def zBj (N : Nat) : Ent qP := zG (zc qP) zf (zxl N) 44 Tryz.f44 Tryz.func44 zie N (zrj N) (l := [(5, zb 5 zxj)]) (al (zlU N) an) (zBk N)
def zez : Nat -> Keep × Keep := anL [(5, ⟨[1, 2, 3, 4], [], [1, 2, 3], [], [((2, 0), 1)], [], [((3, 0), 1)], [], false, some 2012288, []⟩, ⟨[2, 3], [], [2, 3], [], [((2, 0), 1)], [], [((3, 0), 1)], [], false, some 2012288, []⟩)]
def zrl (N : Nat) : List (Ent qP) := []
def zU (N : Nat) : LSpec where
 X := Int × qL × qL × Nat × qA × Nat × Nat
 Y := (qL × Nat × qA × Nat × Nat)
 dt := .fm 27 0 (zez 5).1.toks 2012288 [(1, .ptr 1 0), (2, .ptr 2 0), (3, .ptr 3 0), (4, .int .i64)] [(1, .cells [.lst 1]), (2, .cells [.tok 1 6400524288]), (3, .cells [.vs0 2012288 1]), (2012288, .tt)] rfl
 od := .mk 27 0 (zez 5).2.toks [⟨.exit 0, [(2, .ptr 2 0), (3, .ptr 3 0)], [(2, .cells [.tok 1 6400524288]), (3, .cells [.vs0 2012288 1]), (2012288, .tt)], some 2012288⟩] rfl
 b := λ u5 α kn ke => (match (decide (u5.1 < (u5.2.1.length : Int))) with | true => (if 0 <= u5.1 then (match u5.2.1[u5.1.toNat]? with | some c4 => (match (c4.drop 0)[0]? with | some x5 => (match Zf 29 x5 with | some l6 => (if (([] : qL).length + l6.length) * 288 <= zd then (if (u5.2.2.2.2.2.2 = u5.2.2.2.1 /\ u5.2.2.2.2.2.1 <= u5.2.2.2.2.2.2) /\ u5.2.2.2.1 * 1 <= u5.2.2.2.2.1.length /\ (u5.2.2.2.1 + 1) * 24 <= zd then (kn ((i64 (u5.1 + 1)), u5.2.1, u5.2.2.1, (u5.2.2.2.1 + 1), ((u5.2.2.2.2.1.take (u5.2.2.2.1 * 1) ++ [AV.list 29 (([] : qL) ++ l6) (some (TOB + u5.2.2.2.2.2.2))]).map datF), u5.2.2.2.2.2.1, (u5.2.2.2.2.2.2 + 1))) else none) else none) | none => none) | none => none) | none => none) else none) | false => (ke (u5.2.2.1, u5.2.2.2.1, (u5.2.2.2.2.1.map datF), u5.2.2.2.2.2)))
abbrev zgY (N : Nat) (x : Int × qL × qL × Nat × qA × Nat × Nat) : Option ((qL × Nat × qA × Nat × Nat)) := (zU N).L N x
def zif (N : Nat) : FSpec where
 X := qL
 Y := Nat × qA × Nat × Nat
 ad := .mk [.ags [.sl 1]] [] rfl
 S := ⟨[[some 1]], [], [], [], []⟩
 bm := true
 ret := λ y => ⟨(AV.agg [(AV.vs 0 0 y.1 1)]), [], some y.2.1, [], [], [], some (y.2.2.1, y.2.2.2)⟩
 t := λ x α k => (match zgY N (0, x, ([] : qL), 0, ([] : List AV), 0, 0) with | some y7 => (k (y7.2.1, (y7.2.2.1.map datF), y7.2.2.2)) | none => none)
abbrev zb1 (N : Nat) (x : qL) : Option (Nat × qA × Nat × Nat) := (zif N).d x
def zlW (N : Nat) : List (Nat × LSpec) := [(5, zU N)]
def zrk : Code := Tryz.f44.body.getD .skip
theorem zjK (N : Nat) : zP qP zez N (zlW N) 5 (zb 5 zrk) :=
 zy (zr qP [23, 24]) zf (zrl N) (l := []) an (zU N)
def zlV (N : Nat) : Ent qP := zG (zr qP [23, 24]) zf (zrl N) 44 Tryz.f44 Tryz.func44 zez N (zlW N) (l := [(5, zb 5 zrk)]) (al (zjK N) an) (zif N)
def zb2 : Nat -> Keep × Keep := anF [(2, ⟨[1, 3, 5, 6], [], [3, 5, 6], [], [((6, 0), 1)], [], [], [], true, none, []⟩, ⟨[1, 3, 5, 6, 7], [], [3, 5, 6], [], [((6, 0), 1)], [], [], [], false, none, []⟩), (19, ⟨[1, 3, 5, 6, 8], [], [3, 5, 6, 8], [], [((6, 0), 1)], [], [], [], true, none, []⟩, ⟨[1, 3, 5, 6, 7, 8], [], [3, 5, 6, 8], [], [((6, 0), 1)], [], [], [], false, none, []⟩)] [(100018, ([], [((9, 0), 1)]))]
def ztc (N : Nat) : List (Ent qP) := [zlx N, zyn N, zoT N, zxU N, zjS N, ztC N, zyq N, zlV N]
def j6 (N : Nat) : LSpec where
 X := Int × qL × RT7 × qL × RT7
 Y := (Int × Int × qL × RT7 × qL × RT7) ⊕ (Int × qL × RT7 × qL × RT7)
 dt := .mk 127 0 (zb2 19).1.toks [(1, .int .i64), (3, .ptr 3 0), (5, .ptr 5 0), (6, .ptr 6 0), (8, .ptr 8 0)] [(3, .cells [.lst 1]), (5, .row RK7), (6, .cells [.tok 1 6401572864]), (8, .row RK7)] rfl
 od := .mk 127 0 (zb2 19).2.toks [⟨.ret, [(1, .int .i64), (3, .ptr 3 0), (5, .ptr 5 0), (6, .ptr 6 0), (7, .int .i64), (8, .ptr 8 0)], [(3, .cells [.lst 1]), (5, .row RK7), (6, .cells [.tok 1 6401572864]), (8, .row RK7)], none⟩, ⟨.normal, [(1, .int .i64), (3, .ptr 3 0), (5, .ptr 5 0), (6, .ptr 6 0), (8, .ptr 8 0)], [(3, .cells [.lst 1]), (5, .row RK7), (6, .cells [.tok 1 6401572864]), (8, .row RK7)], none⟩] rfl
 b := λ u19 α kn ke => (match (u19.2.2.1.1 == 5) with | true => (match (u19.2.2.1.2.2.2.1 == u19.1) with | true => (ke (.inl (u19.1, 10, u19.2.1, u19.2.2.1, ([] : qL), u19.2.2.2.2))) | false => (match (u19.2.2.1.1 == 6) with | true => (match zg4 N u19.2.2.2.2 with | some y21 => (match y21 with | true => (ke (.inl (u19.1, 10, u19.2.1, u19.2.2.1, ([] : qL), u19.2.2.2.2))) | false => (ke (.inr u19))) | none => none) | false => (ke (.inr u19)))) | false => (match (u19.2.2.1.1 == 6) with | true => (match zg4 N u19.2.2.2.2 with | some y22 => (match y22 with | true => (ke (.inl (u19.1, 10, u19.2.1, u19.2.2.1, ([] : qL), u19.2.2.2.2))) | false => (ke (.inr u19))) | none => none) | false => (ke (.inr u19))))
abbrev zg1 (N : Nat) (x : Int × qL × RT7 × qL × RT7) : Option ((Int × Int × qL × RT7 × qL × RT7) ⊕ (Int × qL × RT7 × qL × RT7)) := (j6 N).L N x
def za5 (N : Nat) : LSpec where
 X := Int × qL × RT7 × qL
 Y := (Int × Int × qL × RT7 × qL) ⊕ (Int × qL × RT7 × qL)
 dt := .mk 127 0 (zb2 2).1.toks [(1, .int .i64), (3, .ptr 3 0), (5, .ptr 5 0), (6, .ptr 6 0)] [(3, .cells [.lst 1]), (5, .row RK7), (6, .cells [.tok 1 6401572864])] rfl
 od := .mk 127 0 (zb2 2).2.toks [⟨.ret, [(1, .int .i64), (3, .ptr 3 0), (5, .ptr 5 0), (6, .ptr 6 0), (7, .int .i64)], [(3, .cells [.lst 1]), (5, .row RK7), (6, .cells [.tok 1 6401572864])], none⟩, ⟨.normal, [(1, .int .i64), (3, .ptr 3 0), (5, .ptr 5 0), (6, .ptr 6 0)], [(3, .cells [.lst 1]), (5, .row RK7), (6, .cells [.tok 1 6401572864])], none⟩] rfl
 b := λ u2 α kn ke => (match zfK N u2.2.1 with | some y7 => (match (!y7) with | true => (ke (.inl (u2.1, 1, u2.2.1, u2.2.2.1, ([] : qL)))) | false => (match zjW N u2.2.2.1.2.2.1 with | some y8 => (match (!y8) with | true => (ke (.inl (u2.1, 1, u2.2.1, u2.2.2.1, ([] : qL)))) | false => (match (u2.2.2.1.1 == 3) with | true => (match zaF N ([(zl (zm u2.2.2.1))]) with | some y9 => (match (!y9) with | true => (ke (.inl (u2.1, 1, u2.2.1, u2.2.2.1, ([] : qL)))) | false => (ke (.inr u2))) | none => none) | false => (ke (.inr u2)))) | none => none)) | none => none)
abbrev zl2 (N : Nat) (x : Int × qL × RT7 × qL) : Option ((Int × Int × qL × RT7 × qL) ⊕ (Int × qL × RT7 × qL)) := (za5 N).L N x
def ztd (N : Nat) : FSpec where
 X := qL × Int × RT7
 Y := qL × Int
 ad := .mk [.ags [.sl 1], .int .i64, .agg RK7] [] rfl
 S := ⟨[[some 1], [none]], [], [], [], []⟩
 ret := λ y => qR (AV.tup [(AV.agg [(AV.list 1 y.1 none)]), (AV.v (.int .i64 y.2))])
 t := λ x α k => (match zl2 N (x.2.1, x.1, x.2.2, ([] : qL)) with | some y10 => (match y10 with | .inl z11 => (k (z11.2.2.2.2, z11.2.1)) | .inr z12 => (match (decide (z12.1 < 0)) with | true => (k (([] : qL), 6)) | false => (match (decide (z12.1 >= (z12.2.1.length : Int))) with | true => (k (([] : qL), 6)) | false => (match (decide (z12.2.2.1.2.2.2.1 < 0)) with | true => (k (([] : qL), 6)) | false => (match (decide (z12.2.2.1.2.2.2.1 >= (z12.2.1.length : Int))) with | true => (k (([] : qL), 6)) | false => (match (decide (z12.2.2.1.2.1 < 0)) with | true => (k (([] : qL), 2)) | false => (match (decide (z12.2.2.1.2.1 > 18014398509481984)) with | true => (k (([] : qL), 2)) | false => (match zo5 N (z12.2.1, z12.2.2.1.2.1) with | some y13 => (match (!y13) with | true => (k (([] : qL), 9)) | false => (if 0 <= z12.1 then (match z12.2.1[z12.1.toNat]? with | some c14 => (match zbr c14 with | some e15 => (match zdd N e15.1 with | some y16 => (match zg1 N (z12.1, z12.2.1, z12.2.2.1, z12.2.2.2, y16) with | some y23 => (match y23 with | .inl z24 => (k (z24.2.2.2.2.1, z24.2.1)) | .inr z25 => (if 0 <= z25.1 then (match z25.2.1[z25.1.toNat]? with | some c26 => (match (c26.drop 0)[0]? with | some x27 => (match Zf 29 x27 with | some l28 => (match ((l28.length : Int) == 100) with | true => (k (([] : qL), 8)) | false => (match zfS N z25.2.2.1.1 with | some y29 => (match y29 with | true => (match zb1 N z25.2.1 with | some y30 => (if 0 <= z25.1 /\ z25.1 < (y30.1 : Int) then (match (y30.2.1.map (datJ y30.2.2.1 y30.2.2.2))[(((0 + z25.1.toNat) * 1) + 0)]? with | some c31 => (match c31 with | .list n32 l33 (some q34) => (if n32 = 29 /\ q34 = TOB + (((0 + z25.1.toNat) * 1) + 0) /\ y30.2.2.1 <= (((0 + z25.1.toNat) * 1) + 0) /\ (((0 + z25.1.toNat) * 1) + 0) < y30.2.2.2 then (if (l33.length + [(zo (z25.2.2.1.1, z25.2.2.1.2.1, z25.2.2.1.2.2.1, z25.2.2.1.2.2.2.1, z25.2.2.2.2.2.2.2.2))].length) * 288 <= zd then (if 0 <= z25.1 /\ z25.1 < (y30.1 : Int) then (if (((0 + z25.1.toNat) * 1) + 0) + 1 <= (y30.2.1.map (datJ y30.2.2.1 y30.2.2.2)).length then (if y30.1 * 1 <= (splice (y30.2.1.map (datJ y30.2.2.1 y30.2.2.2)) (((0 + z25.1.toNat) * 1) + 0) [(AV.list 29 (l33 ++ [(zo (z25.2.2.1.1, z25.2.2.1.2.1, z25.2.2.1.2.2.1, z25.2.2.1.2.2.2.1, z25.2.2.2.2.2.2.2.2))]) (some 7872))]).length then (k ((zp ((splice (y30.2.1.map (datJ y30.2.2.1 y30.2.2.2)) (((0 + z25.1.toNat) * 1) + 0) [(AV.list 29 (l33 ++ [(zo (z25.2.2.1.1, z25.2.2.1.2.1, z25.2.2.1.2.2.1, z25.2.2.1.2.2.2.1, z25.2.2.2.2.2.2.2.2))]) (some 7872))]).take (y30.1 * 1)) 1 y30.1), 0)) else none) else none) else none) else none) else none) | _ => none) | none => none) else none) | none => none) | false => (match zb1 N z25.2.1 with | some y35 => (if 0 <= z25.1 /\ z25.1 < (y35.1 : Int) then (match (y35.2.1.map (datJ y35.2.2.1 y35.2.2.2))[(((0 + z25.1.toNat) * 1) + 0)]? with | some c36 => (match c36 with | .list n37 l38 (some q39) => (if n37 = 29 /\ q39 = TOB + (((0 + z25.1.toNat) * 1) + 0) /\ y35.2.2.1 <= (((0 + z25.1.toNat) * 1) + 0) /\ (((0 + z25.1.toNat) * 1) + 0) < y35.2.2.2 then (if (l38.length + [(zo z25.2.2.1)].length) * 288 <= zd then (if 0 <= z25.1 /\ z25.1 < (y35.1 : Int) then (if (((0 + z25.1.toNat) * 1) + 0) + 1 <= (y35.2.1.map (datJ y35.2.2.1 y35.2.2.2)).length then (if y35.1 * 1 <= (splice (y35.2.1.map (datJ y35.2.2.1 y35.2.2.2)) (((0 + z25.1.toNat) * 1) + 0) [(AV.list 29 (l38 ++ [(zo z25.2.2.1)]) (some 7872))]).length then (k ((zp ((splice (y35.2.1.map (datJ y35.2.2.1 y35.2.2.2)) (((0 + z25.1.toNat) * 1) + 0) [(AV.list 29 (l38 ++ [(zo z25.2.2.1)]) (some 7872))]).take (y35.1 * 1)) 1 y35.1), 0)) else none) else none) else none) else none) else none) | _ => none) | none => none) else none) | none => none)) | none => none)) | none => none) | none => none) | none => none) else none)) | none => none) | none => none) | none => none) | none => none) else none)) | none => none)))))))) | none => none)
abbrev zjN (N : Nat) (x : qL × Int × RT7) : Option (qL × Int) := (ztd N).d x
def zl4 (N : Nat) : List (Nat × LSpec) := [(2, za5 N), (19, j6 N)]
def zoW : Code := Tryz.f48.body.getD .skip
theorem zjO (N : Nat) : zP qP zb2 N (zl4 N) 19 (zb 19 zoW) :=
 Jn (zr qP [111, 120]) zf (ztc N) (l := []) an (j6 N)
theorem zl3 (N : Nat) : zP qP zb2 N (zl4 N) 2 (zb 2 zoW) :=
 Jn (zr qP [111, 120]) zf (ztc N) (l := []) an (za5 N)
def zoX (N : Nat) : Ent qP := zG (zr qP [111, 120]) zf (ztc N) 48 Tryz.f48 Tryz.func48 zb2 N (zl4 N) (l := [(2, zb 2 zoW), (19, zb 19 zoW)]) (al (zl3 N) (al (zjO N) an)) (ztd N)
def zxQ : Nat -> Keep × Keep := anL []
def zBJ (N : Nat) : List (Ent qP) := []
def ztz (N : Nat) : FSpec where
 X := RT7
 Y := Bool
 ad := .mk [.agg RK7] [] rfl
 ret := λ y => qR (AV.v (.bool y))
 t := λ x α k => (match (x.1 == 1) with | true => (k true) | false => (match (x.1 == 3) with | true => (k true) | false => (k (x.1 == 6))))
abbrev zo4 (N : Nat) (x : RT7) : Option (Bool) := (ztz N).d x
def zxR (N : Nat) : Ent qP := zG (zc qP) zf (zBJ N) 65 Tryz.f65 Tryz.func65 zxQ N [] (l := []) an (ztz N)
def jp : Nat -> Keep × Keep := anL [(5, ⟨[2, 6], [], [2], [(1, 25)], [], [(5, 1)], [], [], false, none, []⟩, ⟨[2], [], [2], [(1, 25)], [], [(5, 1)], [], [], false, none, []⟩), (18, ⟨[2, 5, 8], [], [2, 1000005], [(1, 25)], [], [], [], [1000005], false, none, []⟩, ⟨[5], [], [1000005], [], [], [], [], [1000005], false, none, []⟩), (26, ⟨[2, 5, 8, 9], [], [2, 1000005], [(1, 25)], [], [], [], [1000005], false, none, []⟩, ⟨[2, 5, 8], [], [2, 1000005], [(1, 25)], [], [], [], [1000005], false, none, []⟩)]
def zid (N : Nat) : List (Ent qP) := [zjS N, zyb N, zmn N, zye N]
def Zi (N : Nat) : LSpec where
 X := qL × Nat × Int × Int × qL × qA
 Y := (qL × Nat × Int × qL × qA)
 dt := .mk 81 0 (jp 26).1.toks [(1, .lst 25), (2, .ptr 2 0), (5, .vs0 1000005 1), (8, .int .i64), (9, .int .i64)] [(2, .cells [.lst 1]), (1000005, .tt)] rfl
 od := .mk 81 0 (jp 26).2.toks [⟨.exit 4, [(1, .lst 25), (2, .ptr 2 0), (5, .vs0 1000005 1), (8, .int .i64)], [(2, .cells [.lst 1]), (1000005, .tt)], none⟩] rfl
 b := λ u26 α kn ke => (match (decide (u26.2.2.2.1 < (u26.1.length : Int))) with | true => (if 0 <= u26.2.2.1 /\ u26.2.2.1 < (u26.2.1 : Int) then (match u26.2.2.2.2.2[((0 + u26.2.2.1.toNat) * 1)]? with | some x23 => (match x23 with | .v (.int q25 n24) => (if q25 = .i64 then (match (decide (n24 < 0)) with | true => (match zb9 N (u26.2.1, u26.2.2.2.1, (u26.2.2.2.2.2.map dat0)) with | some y26 => (match (!y26.1) with | true => (if 0 <= u26.2.2.1 then (match u26.2.2.2.2.1[u26.2.2.1.toNat]? with | some c27 => (match zbr c27 with | some e28 => (match zdd N e28.1 with | some y29 => (if 0 <= u26.2.2.2.1 then (match u26.1[u26.2.2.2.1.toNat]? with | some c30 => (match ((c30.drop 9).drop 0)[0]? with | some x31 => (match Zf 9 x31 with | some l32 => (match zmM N (y29.2.2.2.2.2.2.2.2.2.2.2.2.2.1, l32) with | some y33 => (match y33 with | true => (if 0 <= u26.2.2.1 /\ u26.2.2.1 < (u26.2.1 : Int) then (if ((0 + u26.2.2.1.toNat) * 1) + 1 <= y26.2.length then (kn (u26.1, u26.2.1, u26.2.2.1, (i64 (u26.2.2.2.1 + 1)), u26.2.2.2.2.1, ((splice y26.2 ((0 + u26.2.2.1.toNat) * 1) [(AV.v (.int .i64 u26.2.2.2.1))]).map dat0))) else none) else none) | false => (kn (u26.1, u26.2.1, u26.2.2.1, (i64 (u26.2.2.2.1 + 1)), u26.2.2.2.2.1, (y26.2.map dat0)))) | none => none) | none => none) | none => none) | none => none) else none) | none => none) | none => none) | none => none) else none) | false => (kn (u26.1, u26.2.1, u26.2.2.1, (i64 (u26.2.2.2.1 + 1)), u26.2.2.2.2.1, (y26.2.map dat0)))) | none => none) | false => (ke (u26.1, u26.2.1, u26.2.2.1, u26.2.2.2.2.1, (u26.2.2.2.2.2.map dat0)))) else none) | _ => none) | none => none) else none) | false => (ke (u26.1, u26.2.1, u26.2.2.1, u26.2.2.2.2.1, (u26.2.2.2.2.2.map dat0))))
abbrev zic (N : Nat) (x : qL × Nat × Int × Int × qL × qA) : Option ((qL × Nat × Int × qL × qA)) := (Zi N).L N x
def Ju (N : Nat) : LSpec where
 X := qL × Nat × Int × qL × qA
 Y := (Nat × qA)
 dt := .mk 81 0 (jp 18).1.toks [(1, .lst 25), (2, .ptr 2 0), (5, .vs0 1000005 1), (8, .int .i64)] [(2, .cells [.lst 1]), (1000005, .tt)] rfl
 od := .mk 81 0 (jp 18).2.toks [⟨.exit 2, [(5, .vs0 1000005 1)], [(1000005, .tt)], none⟩] rfl
 b := λ u18 α kn ke => (match (decide (u18.2.2.1 < (u18.2.2.2.1.length : Int))) with | true => (match zic N (u18.1, u18.2.1, u18.2.2.1, 0, u18.2.2.2.1, (u18.2.2.2.2.map dat0)) with | some y35 => (kn (y35.1, y35.2.1, (i64 (y35.2.2.1 + 1)), y35.2.2.2.1, (y35.2.2.2.2.map dat0))) | none => none) | false => (ke (u18.2.1, (u18.2.2.2.2.map dat0))))
abbrev zib (N : Nat) (x : qL × Nat × Int × qL × qA) : Option ((Nat × qA)) := (Ju N).L N x
def zaH (N : Nat) : LSpec where
 X := Nat × qL × Int × qL × qA
 Y := (Nat × qL × qL × qA)
 dt := .mk 81 0 (jp 5).1.toks [(5, .vs0 1000005 1), (1, .lst 25), (2, .ptr 2 0), (6, .int .i64)] [(2, .cells [.lst 1]), (1000005, .tt)] rfl
 od := .mk 81 0 (jp 5).2.toks [⟨.exit 0, [(5, .vs0 1000005 1), (1, .lst 25), (2, .ptr 2 0)], [(2, .cells [.lst 1]), (1000005, .tt)], none⟩] rfl
 b := λ u5 α kn ke => (match (decide (u5.2.2.1 < (u5.2.2.2.1.length : Int))) with | true => (if 0 <= u5.2.2.1 then (match u5.2.2.2.1[u5.2.2.1.toNat]? with | some c6 => (match zbr c6 with | some e7 => (match zdd N e7.1 with | some y8 => (match zmJ N (u5.2.1, (zhb y8)) with | some y9 => (match zb9 N (u5.1, y9, (u5.2.2.2.2.map dat0)) with | some y10 => (match y10.1 with | true => (if u5.1 * 1 <= y10.2.length /\ (u5.1 + [[(AV.v (.int .i64 (-1)))]].length) * 8 <= zd then (kn ((u5.1 + [[(AV.v (.int .i64 (-1)))]].length), u5.2.1, (i64 (u5.2.2.1 + 1)), u5.2.2.2.1, ((y10.2.take (u5.1 * 1) ++ [[(AV.v (.int .i64 (-1)))]].flatten).map dat0))) else none) | false => (if u5.1 * 1 <= y10.2.length /\ (u5.1 + [[(AV.v (.int .i64 y9))]].length) * 8 <= zd then (kn ((u5.1 + [[(AV.v (.int .i64 y9))]].length), u5.2.1, (i64 (u5.2.2.1 + 1)), u5.2.2.2.1, ((y10.2.take (u5.1 * 1) ++ [[(AV.v (.int .i64 y9))]].flatten).map dat0))) else none)) | none => none) | none => none) | none => none) | none => none) | none => none) else none) | false => (ke (u5.1, u5.2.1, u5.2.2.2.1, (u5.2.2.2.2.map dat0))))
abbrev zlR (N : Nat) (x : Nat × qL × Int × qL × qA) : Option ((Nat × qL × qL × qA)) := (zaH N).L N x
def zlS (N : Nat) : FSpec where
 X := qL × qL
 Y := Nat × qA
 ad := .mk [.ags [.sl 1], .lst 25] [] rfl
 S := ⟨[[some 1000001]], [], [], [], []⟩
 bm := true
 ret := λ y => ⟨(AV.vs 0 0 y.1 1), [], some y.2, [], [], [], none⟩
 t := λ x α k => (match zlR N (0, x.2, 0, x.1, ([] : List AV)) with | some y11 => (match zib N (y11.2.1, y11.1, 0, y11.2.2.1, (y11.2.2.2.map dat0)) with | some y36 => (k (y36.1, (y36.2.map dat0))) | none => none) | none => none)
abbrev zlQ (N : Nat) (x : qL × qL) : Option (Nat × qA) := (zlS N).d x
def zey (N : Nat) : List (Nat × LSpec) := [(5, zaH N), (18, Ju N), (26, Zi N)]
def zbZ : Code := Tryz.f41.body.getD .skip
theorem zb0 (N : Nat) : zP qP jp N (zey N) 26 (zb 26 zbZ) :=
 zy (zr qP [33]) zf (zid N) (l := []) an (Zi N)
theorem zgX (N : Nat) : zP qP jp N (zey N) 18 (zb 18 zbZ) :=
 zy (zr qP [33]) zf (zid N) (l := [(26, zb 26 zbZ)]) (al (zb0 N) an) (Ju N)
theorem zjJ (N : Nat) : zP qP jp N (zey N) 5 (zb 5 zbZ) :=
 zy (zr qP [33]) zf (zid N) (l := []) an (zaH N)
def zxf (N : Nat) : Ent qP := zG (zr qP [33]) zf (zid N) 41 Tryz.f41 Tryz.func41 jp N (zey N) (l := [(5, zb 5 zbZ), (18, zb 18 zbZ), (26, zb 26 zbZ)]) (al (zjJ N) (al (zgX N) (al (zb0 N) an))) (zlS N)
def JI : Nat -> Keep × Keep := anF [(18, ⟨[2, 3, 6, 9, 10, 12], [(11, 1)], [3, 6, 9, 40, 43], [(1, 25)], [((6, 0), 1)], [], [], [40, 43], false, some 40, []⟩, ⟨[2, 6, 8, 9, 10], [(11, 1)], [6, 9, 40, 43], [(1, 25), (7, 1)], [((6, 0), 1)], [], [], [40, 43], false, some 40, []⟩), (30, ⟨[2, 3, 6, 9, 10, 12, 13, 14, 15, 16, 68], [(11, 1)], [3, 6, 9, 13, 14, 40, 43], [(1, 25)], [((6, 0), 1)], [], [], [40, 43], true, some 40, []⟩, ⟨[2, 3, 6, 9, 10, 12, 13, 14, 15], [(11, 1)], [3, 6, 9, 13, 14, 40, 43], [(1, 25)], [((6, 0), 1)], [], [], [40, 43], false, some 40, []⟩), (42, ⟨[2, 6, 9, 10, 17], [(11, 1)], [6, 9, 43], [(1, 25)], [((6, 0), 1)], [], [((9, 0), 1)], [43], false, none, []⟩, ⟨[6, 9], [(11, 1)], [6, 9], [], [((6, 0), 1)], [], [((9, 0), 1)], [], false, none, []⟩)] [(100032, ([], [((9, 0), 1)]))]
def zoS (N : Nat) : List (Ent qP) := [zlx N, zoT N, zxU N, zlV N, zxf N, zjS N, zxR N, zte N, ztC N, zmn N]
def zaE (N : Nat) : LSpec where
 X := qL × qL × Int × Nat × Int × qL × Nat × qA × qA
 Y := (qL × qL × Nat × qA)
 dt := .mk 155 0 (JI 42).1.toks [(11, .tok 1 1280000704), (1, .lst 25), (2, .int .i64), (6, .ptr 6 0), (9, .ptr 9 0), (10, .vs0 43 1), (17, .int .i64)] [(6, .cells [.tok 1 6401572864]), (9, .cells [.vs0 2036864 1]), (43, .tt), (2036864, .tt)] rfl
 od := .mk 155 0 (JI 42).2.toks [⟨.exit 2, [(11, .tok 1 1280000704), (6, .ptr 6 0), (9, .ptr 9 0)], [(6, .cells [.tok 1 6401572864]), (9, .cells [.vs0 2036864 1]), (2036864, .tt)], none⟩] rfl
 b := λ u42 α kn ke => (match (decide (u42.2.2.2.2.1 < (u42.2.1.length : Int))) with | true => (match zb9 N (u42.2.2.2.1, u42.2.2.2.2.1, (u42.2.2.2.2.2.2.2.1.map dat0)) with | some y58 => (match (!y58.1) with | true => (if (u42.1.length + [[(AV.v (.int .i64 ((u42.2.2.2.2.2.2.1 : Nat) : Int)))]].length) * 8 <= zd then (if 0 <= u42.2.2.2.2.1 then (match u42.2.1[u42.2.2.2.2.1.toNat]? with | some c59 => (match zeE c59 with | some e60 => (if u42.2.2.2.2.2.2.1 * 1 <= u42.2.2.2.2.2.2.2.2.length /\ (u42.2.2.2.2.2.2.1 + [[(AV.list 29 [(zo (1, u42.2.2.1, (⟨#[]⟩ : ByteArray), 0, e60))] none)]].length) * 24 <= zd then (kn ((u42.1 ++ [[(AV.v (.int .i64 ((u42.2.2.2.2.2.2.1 : Nat) : Int)))]]), u42.2.1, u42.2.2.1, u42.2.2.2.1, (i64 (u42.2.2.2.2.1 + 1)), u42.2.2.2.2.2.1, (u42.2.2.2.2.2.2.1 + [[(AV.list 29 [(zo (1, u42.2.2.1, (⟨#[]⟩ : ByteArray), 0, e60))] none)]].length), (y58.2.map dat0), ((u42.2.2.2.2.2.2.2.2.take (u42.2.2.2.2.2.2.1 * 1) ++ [[(AV.list 29 [(zo (1, u42.2.2.1, (⟨#[]⟩ : ByteArray), 0, e60))] none)]].flatten).map dat0))) else none) | none => none) | none => none) else none) else none) | false => (kn (u42.1, u42.2.1, u42.2.2.1, u42.2.2.2.1, (i64 (u42.2.2.2.2.1 + 1)), u42.2.2.2.2.2.1, u42.2.2.2.2.2.2.1, (y58.2.map dat0), (u42.2.2.2.2.2.2.2.2.map dat0)))) | none => none) | false => (ke (u42.1, u42.2.2.2.2.2.1, u42.2.2.2.2.2.2.1, (u42.2.2.2.2.2.2.2.2.map dat0))))
abbrev zgS (N : Nat) (x : qL × qL × Int × Nat × Int × qL × Nat × qA × qA) : Option ((qL × qL × Nat × qA)) := (zaE N).L N x
def j5 (N : Nat) : LSpec where
 X := qL × qL × Int × Nat × Int × Bool × Int × Bool × qL × qL × Nat × RT7 × RT7 × qA × qA × Nat × Nat
 Y := (qL × qL × Int × Nat × Int × Bool × qL × qL × Nat × RT7 × RT7 × qA × qA × Nat × Nat)
 dt := .fm 155 0 (JI 30).1.toks 40 [(11, .tok 1 1280000704), (1, .lst 25), (2, .int .i64), (3, .ptr 3 0), (6, .ptr 6 0), (9, .ptr 9 0), (10, .vs0 43 1), (12, .int .i64), (13, .ptr 13 0), (14, .ptr 14 0), (15, .bool), (16, .int .i64), (68, .bool)] [(3, .cells [.lst 1]), (6, .cells [.tok 1 6401572864]), (9, .cells [.vs0 40 1]), (13, .row RK7), (14, .row RK7), (40, .tt), (43, .tt)] rfl
 od := .mk 155 0 (JI 30).2.toks [⟨.normal, [(11, .tok 1 1280000704), (1, .lst 25), (2, .int .i64), (3, .ptr 3 0), (6, .ptr 6 0), (9, .ptr 9 0), (10, .vs0 43 1), (12, .int .i64), (13, .ptr 13 0), (14, .ptr 14 0), (15, .bool)], [(3, .cells [.lst 1]), (6, .cells [.tok 1 6401572864]), (9, .cells [.vs0 40 1]), (13, .row RK7), (14, .row RK7), (40, .tt), (43, .tt)], some 40⟩] rfl
 b := λ u30 α kn ke => (match u30.2.2.2.2.2.2.2.1 with | true => (if 0 <= u30.2.2.2.2.2.2.1 then (match u30.2.1[u30.2.2.2.2.2.2.1.toNat]? with | some c24 => (match zeE c24 with | some e25 => (match zo4 N u30.2.2.2.2.2.2.2.2.2.2.2.1 with | some y26 => (match y26 with | true => (if 0 <= u30.2.2.2.2.2.2.1 then (match u30.2.1[u30.2.2.2.2.2.2.1.toNat]? with | some c27 => (match zeE c27 with | some e28 => (match zb3 N ((zm u30.2.2.2.2.2.2.2.2.2.2.2.1), e28) with | some y29 => (ke (u30.1, u30.2.1, u30.2.2.1, u30.2.2.2.1, u30.2.2.2.2.1, y29, u30.2.2.2.2.2.2.2.2.1, u30.2.2.2.2.2.2.2.2.2.1, u30.2.2.2.2.2.2.2.2.2.2.1, u30.2.2.2.2.2.2.2.2.2.2.2.1, (1, u30.2.2.2.2.2.2.2.2.2.2.2.2.1.2.1, u30.2.2.2.2.2.2.2.2.2.2.2.2.1.2.2.1, u30.2.2.2.2.2.2.2.2.2.2.2.2.1.2.2.2.1, e25), (u30.2.2.2.2.2.2.2.2.2.2.2.2.2.1.map datF), (u30.2.2.2.2.2.2.2.2.2.2.2.2.2.2.1.map dat0), u30.2.2.2.2.2.2.2.2.2.2.2.2.2.2.2)) | none => none) | none => none) | none => none) else none) | false => (ke (u30.1, u30.2.1, u30.2.2.1, u30.2.2.2.1, u30.2.2.2.2.1, false, u30.2.2.2.2.2.2.2.2.1, u30.2.2.2.2.2.2.2.2.2.1, u30.2.2.2.2.2.2.2.2.2.2.1, u30.2.2.2.2.2.2.2.2.2.2.2.1, (1, u30.2.2.2.2.2.2.2.2.2.2.2.2.1.2.1, u30.2.2.2.2.2.2.2.2.2.2.2.2.1.2.2.1, u30.2.2.2.2.2.2.2.2.2.2.2.2.1.2.2.2.1, e25), (u30.2.2.2.2.2.2.2.2.2.2.2.2.2.1.map datF), (u30.2.2.2.2.2.2.2.2.2.2.2.2.2.2.1.map dat0), u30.2.2.2.2.2.2.2.2.2.2.2.2.2.2.2))) | none => none) | none => none) | none => none) else none) | false => (ke (u30.1, u30.2.1, u30.2.2.1, u30.2.2.2.1, u30.2.2.2.2.1, u30.2.2.2.2.2.1, u30.2.2.2.2.2.2.2.2.1, u30.2.2.2.2.2.2.2.2.2.1, u30.2.2.2.2.2.2.2.2.2.2.1, u30.2.2.2.2.2.2.2.2.2.2.2.1, u30.2.2.2.2.2.2.2.2.2.2.2.2.1, (u30.2.2.2.2.2.2.2.2.2.2.2.2.2.1.map datF), (u30.2.2.2.2.2.2.2.2.2.2.2.2.2.2.1.map dat0), u30.2.2.2.2.2.2.2.2.2.2.2.2.2.2.2)))
abbrev zex (N : Nat) (x : qL × qL × Int × Nat × Int × Bool × Int × Bool × qL × qL × Nat × RT7 × RT7 × qA × qA × Nat × Nat) : Option ((qL × qL × Int × Nat × Int × Bool × qL × qL × Nat × RT7 × RT7 × qA × qA × Nat × Nat)) := (j5 N).L N x
def zaD (N : Nat) : LSpec where
 X := qL × qL × Int × Nat × Int × qL × qL × Nat × qA × qA × Nat × Nat
 Y := (qL × qL × qL × Int × Int × Nat × qL × Nat × qA × qA × Nat × Nat) ⊕ (qL × qL × Int × Nat × qL × Nat × qA × qA × Nat × Nat)
 dt := .fm 155 0 (JI 18).1.toks 40 [(11, .tok 1 1280000704), (1, .lst 25), (2, .int .i64), (3, .ptr 3 0), (6, .ptr 6 0), (9, .ptr 9 0), (10, .vs0 43 1), (12, .int .i64)] [(3, .cells [.lst 1]), (6, .cells [.tok 1 6401572864]), (9, .cells [.vs0 40 1]), (40, .tt), (43, .tt)] rfl
 od := .mk 155 0 (JI 18).2.toks [⟨.ret, [(11, .tok 1 1280000704), (1, .lst 25), (7, .lst 1), (2, .int .i64), (6, .ptr 6 0), (8, .int .i64), (9, .ptr 9 0), (10, .vs0 43 1)], [(6, .cells [.tok 1 6401572864]), (9, .cells [.vs0 40 1]), (40, .tt), (43, .tt)], some 40⟩, ⟨.exit 0, [(11, .tok 1 1280000704), (1, .lst 25), (2, .int .i64), (6, .ptr 6 0), (9, .ptr 9 0), (10, .vs0 43 1)], [(6, .cells [.tok 1 6401572864]), (9, .cells [.vs0 40 1]), (40, .tt), (43, .tt)], some 40⟩] rfl
 b := λ u18 α kn ke => (match (decide (u18.2.2.2.2.1 < ((u18.2.2.2.1 : Nat) : Int))) with | true => (if 0 <= u18.2.2.2.2.1 then (match u18.2.2.2.2.2.1[u18.2.2.2.2.1.toNat]? with | some c38 => (match zbr c38 with | some e39 => (match zdd N e39.1 with | some y40 => (if 0 <= u18.2.2.2.2.1 /\ u18.2.2.2.2.1 < (u18.2.2.2.1 : Int) then (match u18.2.2.2.2.2.2.2.2.2.1[((0 + u18.2.2.2.2.1.toNat) * 1)]? with | some x41 => (match x41 with | .v (.int q43 n42) => (if q43 = .i64 then (match zex N (u18.1, u18.2.1, u18.2.2.1, u18.2.2.2.1, u18.2.2.2.2.1, (y40.1 == 2), n42, (decide (n42 >= 0)), u18.2.2.2.2.2.1, u18.2.2.2.2.2.2.1, u18.2.2.2.2.2.2.2.1, y40, (2, u18.2.2.1, (⟨#[]⟩ : ByteArray), 0, y40.2.2.2.2), (u18.2.2.2.2.2.2.2.2.1.map datF), (u18.2.2.2.2.2.2.2.2.2.1.map dat0), u18.2.2.2.2.2.2.2.2.2.2) with | some y44 => (match zg4 N y44.2.2.2.2.2.2.2.2.2.1 with | some y45 => (match y45 with | true => (match (!y44.2.2.2.2.2.1) with | true => (if 0 <= y44.2.2.2.2.1 /\ y44.2.2.2.2.1 < (y44.2.2.2.2.2.2.2.2.1 : Int) then (match y44.2.2.2.2.2.2.2.2.2.2.2.1[(((0 + y44.2.2.2.2.1.toNat) * 1) + 0)]? with | some c46 => (match c46 with | .list n47 l48 (some q49) => (if n47 = 29 /\ q49 = TOB + (((0 + y44.2.2.2.2.1.toNat) * 1) + 0) /\ y44.2.2.2.2.2.2.2.2.2.2.2.2.2.1 <= (((0 + y44.2.2.2.2.1.toNat) * 1) + 0) /\ (((0 + y44.2.2.2.2.1.toNat) * 1) + 0) < y44.2.2.2.2.2.2.2.2.2.2.2.2.2.2 then (if (l48.length + [(zo y44.2.2.2.2.2.2.2.2.2.2.1)].length) * 288 <= zd then (if 0 <= y44.2.2.2.2.1 /\ y44.2.2.2.2.1 < (y44.2.2.2.2.2.2.2.2.1 : Int) then (if (((0 + y44.2.2.2.2.1.toNat) * 1) + 0) + 1 <= y44.2.2.2.2.2.2.2.2.2.2.2.1.length then (if (y44.1.length + [[(AV.v (.int .i64 y44.2.2.2.2.1))]].length) * 8 <= zd then (if 0 <= y44.2.2.2.2.1 /\ y44.2.2.2.2.1 < (y44.2.2.2.2.2.2.2.2.1 : Int) then (match (splice y44.2.2.2.2.2.2.2.2.2.2.2.1 (((0 + y44.2.2.2.2.1.toNat) * 1) + 0) [(AV.list 29 (l48 ++ [(zo y44.2.2.2.2.2.2.2.2.2.2.1)]) (some 6592))])[(((0 + y44.2.2.2.2.1.toNat) * 1) + 0)]? with | some x50 => (match Zf 29 x50 with | some l51 => (match (decide ((l51.length : Int) > 100)) with | true => (ke (.inl ((y44.1 ++ [[(AV.v (.int .i64 y44.2.2.2.2.1))]]), y44.2.1, ([] : qL), y44.2.2.1, 8, y44.2.2.2.1, ([] : qL), y44.2.2.2.2.2.2.2.2.1, ((splice y44.2.2.2.2.2.2.2.2.2.2.2.1 (((0 + y44.2.2.2.2.1.toNat) * 1) + 0) [(AV.list 29 (l48 ++ [(zo y44.2.2.2.2.2.2.2.2.2.2.1)]) (some 6592))]).map datF), (y44.2.2.2.2.2.2.2.2.2.2.2.2.1.map dat0), ((((0 + y44.2.2.2.2.1.toNat) * 1) + 0) + 1), y44.2.2.2.2.2.2.2.2.2.2.2.2.2.2))) | false => (kn ((y44.1 ++ [[(AV.v (.int .i64 y44.2.2.2.2.1))]]), y44.2.1, y44.2.2.1, y44.2.2.2.1, (i64 (y44.2.2.2.2.1 + 1)), y44.2.2.2.2.2.2.1, y44.2.2.2.2.2.2.2.1, y44.2.2.2.2.2.2.2.2.1, ((splice y44.2.2.2.2.2.2.2.2.2.2.2.1 (((0 + y44.2.2.2.2.1.toNat) * 1) + 0) [(AV.list 29 (l48 ++ [(zo y44.2.2.2.2.2.2.2.2.2.2.1)]) (some 6592))]).map datF), (y44.2.2.2.2.2.2.2.2.2.2.2.2.1.map dat0), ((((0 + y44.2.2.2.2.1.toNat) * 1) + 0) + 1), y44.2.2.2.2.2.2.2.2.2.2.2.2.2.2))) | none => none) | none => none) else none) else none) else none) else none) else none) else none) | _ => none) | none => none) else none) | false => (kn (y44.1, y44.2.1, y44.2.2.1, y44.2.2.2.1, (i64 (y44.2.2.2.2.1 + 1)), y44.2.2.2.2.2.2.1, y44.2.2.2.2.2.2.2.1, y44.2.2.2.2.2.2.2.2.1, (y44.2.2.2.2.2.2.2.2.2.2.2.1.map datF), (y44.2.2.2.2.2.2.2.2.2.2.2.2.1.map dat0), y44.2.2.2.2.2.2.2.2.2.2.2.2.2))) | false => (kn (y44.1, y44.2.1, y44.2.2.1, y44.2.2.2.1, (i64 (y44.2.2.2.2.1 + 1)), y44.2.2.2.2.2.2.1, y44.2.2.2.2.2.2.2.1, y44.2.2.2.2.2.2.2.2.1, (y44.2.2.2.2.2.2.2.2.2.2.2.1.map datF), (y44.2.2.2.2.2.2.2.2.2.2.2.2.1.map dat0), y44.2.2.2.2.2.2.2.2.2.2.2.2.2))) | none => none) | none => none) else none) | _ => none) | none => none) else none) | none => none) | none => none) | none => none) else none) | false => (ke (.inr (u18.1, u18.2.1, u18.2.2.1, u18.2.2.2.1, u18.2.2.2.2.2.2.1, u18.2.2.2.2.2.2.2.1, (u18.2.2.2.2.2.2.2.2.1.map datF), (u18.2.2.2.2.2.2.2.2.2.1.map dat0), u18.2.2.2.2.2.2.2.2.2.2))))
abbrev zlI (N : Nat) (x : qL × qL × Int × Nat × Int × qL × qL × Nat × qA × qA × Nat × Nat) : Option ((qL × qL × qL × Int × Int × Nat × qL × Nat × qA × qA × Nat × Nat) ⊕ (qL × qL × Int × Nat × qL × Nat × qA × qA × Nat × Nat)) := (zaD N).L N x
def zgT (N : Nat) : FSpec where
 X := qL × qL × Int
 Y := qL × qL × Int
 ad := .mk [.ags [.sl 1], .lst 25, .int .i64] [] rfl
 S := ⟨[[some 1], [some 1], [none]], [], [], [], []⟩
 ret := λ y => qR (AV.tup [(AV.agg [(AV.list 1 y.1 none)]), (AV.list 1 y.2.1 none), (AV.v (.int .i64 y.2.2))])
 t := λ x α k => (match zfK N x.1 with | some y1 => (match (!y1) with | true => (k (([] : qL), ([] : qL), 1)) | false => (match zaF N x.2.1 with | some y2 => (match (!y2) with | true => (k (([] : qL), ([] : qL), 1)) | false => (match (decide (x.2.2 < 0)) with | true => (k (([] : qL), ([] : qL), 2)) | false => (match (decide (x.2.2 > 18014398509481984)) with | true => (k (([] : qL), ([] : qL), 2)) | false => (match zo5 N (x.1, x.2.2) with | some y3 => (match (!y3) with | true => (k (([] : qL), ([] : qL), 9)) | false => (match zb1 N x.1 with | some y4 => (match zlQ N (x.1, x.2.1) with | some y5 => (match zlI N (([] : qL), x.2.1, x.2.2, y5.1, 0, x.1, ([] : qL), y4.1, ((y4.2.1.map (datJ y4.2.2.1 y4.2.2.2)).map datF), ((y5.2.map dat0).map dat0), y4.2.2) with | some y52 => (match y52 with | .inl z53 => (k (z53.2.2.2.2.2.2.1, z53.2.2.1, z53.2.2.2.2.1)) | .inr z54 => (match zgS N (z54.1, z54.2.1, z54.2.2.1, z54.2.2.2.1, 0, z54.2.2.2.2.1, z54.2.2.2.2.2.1, (z54.2.2.2.2.2.2.2.1.map dat0), (z54.2.2.2.2.2.2.1.map dat0)) with | some y61 => (match (decide (((y61.2.2.1 : Nat) : Int) > 500)) with | true => (k (([] : qL), ([] : qL), 8)) | false => (if y61.2.2.1 * 1 <= y61.2.2.2.length then (k ((zp (y61.2.2.2.take (y61.2.2.1 * 1)) 1 y61.2.2.1), y61.1, 0)) else none)) | none => none)) | none => none) | none => none) | none => none)) | none => none)))) | none => none)) | none => none)
abbrev zbW (N : Nat) (x : qL × qL × Int) : Option (qL × qL × Int) := (zgT N).d x
def zh9 (N : Nat) : List (Nat × LSpec) := [(18, zaD N), (30, j5 N), (42, zaE N)]
def zgR : Code := Tryz.f38.body.getD .skip
theorem zjH (N : Nat) : zP qP JI N (zh9 N) 42 (zb 42 zgR) :=
 zy (zr qP [40, 43, 100, 146]) zf (zoS N) (l := []) an (zaE N)
theorem zdG (N : Nat) : zP qP JI N (zh9 N) 30 (zb 30 zgR) :=
 Jn (zr qP [40, 43, 100, 146]) zf (zoS N) (l := []) an (j5 N)
theorem zjG (N : Nat) : zP qP JI N (zh9 N) 18 (zb 18 zgR) :=
 zy (zr qP [40, 43, 100, 146]) zf (zoS N) (l := [(30, zb 30 zgR)]) (al (zdG N) an) (zaD N)
def zxc (N : Nat) : Ent qP := zG (zr qP [40, 43, 100, 146]) zf (zoS N) 38 Tryz.f38 Tryz.func38 JI N (zh9 N) (l := [(18, zb 18 zgR), (30, zb 30 zgR), (42, zb 42 zgR)]) (al (zjG N) (al (zdG N) (al (zjH N) an))) (zgT N)
end
end
section
noncomputable section
open Go.RowKit
set_option maxRecDepth 4000
set_option maxHeartbeats 4000000
def zyi : Nat -> Keep × Keep := anL []
def zBV (N : Nat) : List (Ent qP) := [zxu N]
def ztU (N : Nat) : FSpec where
 X := RT0
 Y := Bool
 ad := .mk [.agg RK0] [] rfl
 ret := λ y => qR (AV.v (.bool y))
 t := λ x α k => (match zg2 N ([(zl x)]) with | some y1 => (k y1) | none => none)
abbrev zfR (N : Nat) (x : RT0) : Option (Bool) := (ztU N).d x
def zyj (N : Nat) : Ent qP := zG (zc qP) zf (zBV N) 82 Tryz.f82 Tryz.func82 zyi N [] (l := []) an (ztU N)
def zxE : Nat -> Keep × Keep := anL []
def zBx (N : Nat) : List (Ent qP) := [zyj N, zyg N]
def ztm (N : Nat) : FSpec where
 X := RT7 × Int × Int
 Y := Bool
 ad := .mk [.agg RK7, .int .i64, .int .i64] [] rfl
 ret := λ y => qR (AV.v (.bool y))
 t := λ x α k => (match (decide (x.1.1 < 1)) with | true => (k false) | false => (match (decide (x.1.1 > 6)) with | true => (k false) | false => (match (decide (x.1.2.1 < 0)) with | true => (k false) | false => (match (decide (x.1.2.1 > 18014398509481984)) with | true => (k false) | false => (match zfR N (zm x.1) with | some y1 => (match (!y1) with | true => (k false) | false => (if 0 <= x.1.1 /\ x.1.1 < 7 then (match ((gtab3.map AV.v).drop (x.1.1.toNat * 1))[0]? with | some x2 => (match x2 with | .v (.bool b3) => (match b3 with | true => (match (!(x.1.2.2.1.toList == (⟨#[]⟩ : ByteArray).toList)) with | true => (k false) | false => (if 0 <= x.1.1 /\ x.1.1 < 7 then (match ((gtab3.map AV.v).drop (x.1.1.toNat * 1))[0]? with | some x4 => (match x4 with | .v (.bool b5) => (match (!b5) with | true => (match zmQ N x.1.2.2.1 with | some y6 => (match (!y6) with | true => (k false) | false => (match (x.1.1 == 5) with | true => (match (decide (x.1.2.2.2.1 >= 0)) with | true => (match (decide (x.1.2.2.2.1 < x.2.2)) with | true => (k (x.1.2.2.2.1 != x.2.1)) | false => (k false)) | false => (k false)) | false => (k (x.1.2.2.2.1 == 0)))) | none => none) | false => (match (x.1.1 == 5) with | true => (match (decide (x.1.2.2.2.1 >= 0)) with | true => (match (decide (x.1.2.2.2.1 < x.2.2)) with | true => (k (x.1.2.2.2.1 != x.2.1)) | false => (k false)) | false => (k false)) | false => (k (x.1.2.2.2.1 == 0)))) | _ => none) | none => none) else none)) | false => (if 0 <= x.1.1 /\ x.1.1 < 7 then (match ((gtab3.map AV.v).drop (x.1.1.toNat * 1))[0]? with | some x7 => (match x7 with | .v (.bool b8) => (match (!b8) with | true => (match zmQ N x.1.2.2.1 with | some y9 => (match (!y9) with | true => (k false) | false => (match (x.1.1 == 5) with | true => (match (decide (x.1.2.2.2.1 >= 0)) with | true => (match (decide (x.1.2.2.2.1 < x.2.2)) with | true => (k (x.1.2.2.2.1 != x.2.1)) | false => (k false)) | false => (k false)) | false => (k (x.1.2.2.2.1 == 0)))) | none => none) | false => (match (x.1.1 == 5) with | true => (match (decide (x.1.2.2.2.1 >= 0)) with | true => (match (decide (x.1.2.2.2.1 < x.2.2)) with | true => (k (x.1.2.2.2.1 != x.2.1)) | false => (k false)) | false => (k false)) | false => (k (x.1.2.2.2.1 == 0)))) | _ => none) | none => none) else none)) | _ => none) | none => none) else none)) | none => none)))))
abbrev ztl (N : Nat) (x : RT7 × Int × Int) : Option (Bool) := (ztm N).d x
def zBw (N : Nat) : Ent qP := zG (zc qP) zf (zBx N) 57 Tryz.f57 Tryz.func57 zxE N [] (l := []) an (ztm N)
def zxC : Nat -> Keep × Keep := anL []
def zBu (N : Nat) : List (Ent qP) := [zB5 N]
def ztj (N : Nat) : FSpec where
 X := RT0 × RT0
 Y := Bool
 ad := .mk [.agg RK0, .agg RK0] [] rfl
 ret := λ y => qR (AV.v (.bool y))
 t := λ x α k => (match zyy N ([(zl x.1)], [(zl x.2)]) with | some y1 => (k y1) | none => none)
abbrev zfO (N : Nat) (x : RT0 × RT0) : Option (Bool) := (ztj N).d x
def zti (N : Nat) : Ent qP := zG (zc qP) zf (zBu N) 55 Tryz.f55 Tryz.func55 zxC N [] (l := []) an (ztj N)
def zbT : Nat -> Keep × Keep := anL [(8, ⟨[1, 14, 15], [], [1], [(13, 1)], [], [], [], [], false, none, []⟩, qK [2] [] []), (21, ⟨[1, 3, 4, 14, 15, 40, 41], [], [1, 4], [(13, 1), (39, 29)], [], [], [], [], false, none, []⟩, ⟨[1, 2, 14, 15], [], [1], [(13, 1)], [], [], [], [], false, none, []⟩)]
def zsP (N : Nat) : List (Ent qP) := [zBw N, zti N]
def zT (N : Nat) : LSpec where
 X := qL × qL × Int × Int × Int × Int × Int × qL × qL
 Y := (qL × Bool × Int × Int × qL) ⊕ (qL × Int × Int × qL)
 dt := .mk 92 0 (zbT 21).1.toks [(13, .lst 1), (39, .lst 29), (1, .ptr 1 0), (3, .int .i64), (4, .ptr 4 0), (14, .int .i64), (15, .int .i64), (40, .int .i64), (41, .int .i64)] [(1, .cells [.lst 1]), (4, .cells [.lst 29])] rfl
 od := .mk 92 0 (zbT 21).2.toks [⟨.ret, [(13, .lst 1), (1, .ptr 1 0), (2, .bool), (14, .int .i64), (15, .int .i64)], [(1, .cells [.lst 1])], none⟩, ⟨.exit 2, [(13, .lst 1), (1, .ptr 1 0), (14, .int .i64), (15, .int .i64)], [(1, .cells [.lst 1])], none⟩] rfl
 b := λ u21 α kn ke => (match (decide (u21.2.2.2.2.2.2.1 < u21.2.2.2.2.2.1)) with | true => (if 0 <= u21.2.2.2.2.2.2.1 then (match u21.2.1[u21.2.2.2.2.2.2.1.toNat]? with | some c17 => (match zfw c17 with | some e18 => (match ztl N (e18, u21.2.2.1, (u21.2.2.2.2.2.2.2.1.length : Int)) with | some y19 => (match (!y19) with | true => (ke (.inl (u21.1, false, u21.2.2.2.1, u21.2.2.2.2.1, u21.2.2.2.2.2.2.2.1))) | false => (match (u21.2.2.2.2.2.2.1 == 0) with | true => (kn (u21.1, u21.2.1, u21.2.2.1, u21.2.2.2.1, u21.2.2.2.2.1, u21.2.2.2.2.2.1, (i64 (u21.2.2.2.2.2.2.1 + 1)), u21.2.2.2.2.2.2.2)) | false => (if 0 <= (i64 (u21.2.2.2.2.2.2.1 - 1)) then (match u21.2.2.2.2.2.2.2.2[(i64 (u21.2.2.2.2.2.2.1 - 1)).toNat]? with | some c20 => (match zfw c20 with | some e21 => (match (decide (e18.2.1 < e21.2.1)) with | true => (ke (.inl (u21.1, false, u21.2.2.2.1, u21.2.2.2.2.1, u21.2.2.2.2.2.2.2.1))) | false => (if 0 <= e18.1 /\ e18.1 < 7 then (if 0 <= e21.1 /\ e21.1 < 7 then (match (((gtab1.map AV.v).drop (e18.1.toNat * 7)).drop (e21.1.toNat * 1))[0]? with | some x22 => (match x22 with | .v (.bool b23) => (match (!b23) with | true => (ke (.inl (u21.1, false, u21.2.2.2.1, u21.2.2.2.2.1, u21.2.2.2.2.2.2.2.1))) | false => (if 0 <= e18.1 /\ e18.1 < 7 then (match ((gtab2.map AV.v).drop (e18.1.toNat * 1))[0]? with | some x24 => (match x24 with | .v (.bool b25) => (match b25 with | true => (match zfO N ((zm e18), (zm e21)) with | some y26 => (match (!y26) with | true => (ke (.inl (u21.1, false, u21.2.2.2.1, u21.2.2.2.2.1, u21.2.2.2.2.2.2.2.1))) | false => (kn (u21.1, u21.2.1, u21.2.2.1, u21.2.2.2.1, u21.2.2.2.2.1, u21.2.2.2.2.2.1, (i64 (u21.2.2.2.2.2.2.1 + 1)), u21.2.2.2.2.2.2.2))) | none => none) | false => (kn (u21.1, u21.2.1, u21.2.2.1, u21.2.2.2.1, u21.2.2.2.2.1, u21.2.2.2.2.2.1, (i64 (u21.2.2.2.2.2.2.1 + 1)), u21.2.2.2.2.2.2.2))) | _ => none) | none => none) else none)) | _ => none) | none => none) else none) else none)) | none => none) | none => none) else none))) | none => none) | none => none) | none => none) else none) | false => (ke (.inr (u21.1, u21.2.2.2.1, u21.2.2.2.2.1, u21.2.2.2.2.2.2.2.1))))
abbrev zlp (N : Nat) (x : qL × qL × Int × Int × Int × Int × Int × qL × qL) : Option ((qL × Bool × Int × Int × qL) ⊕ (qL × Int × Int × qL)) := (zT N).L N x
def jK (N : Nat) : LSpec where
 X := qL × Int × Int × qL
 Y := (Bool) ⊕ (Unit)
 dt := .mk 92 0 (zbT 8).1.toks [(13, .lst 1), (1, .ptr 1 0), (14, .int .i64), (15, .int .i64)] [(1, .cells [.lst 1])] rfl
 od := .mk 92 0 (zbT 8).2.toks [⟨.ret, [(2, .bool)], [], none⟩, ⟨.exit 0, [], [], none⟩] rfl
 b := λ u8 α kn ke => (match (decide (u8.2.2.1 < u8.2.1)) with | true => (if 0 <= u8.2.2.1 then (match u8.1[u8.2.2.1.toNat]? with | some c1 => (match zbr c1 with | some e2 => (match (decide ((e2.1.length : Int) < 1)) with | true => (ke (.inl false)) | false => (match (decide ((e2.1.length : Int) > 100)) with | true => (ke (.inl false)) | false => (if 0 <= (0 : Int) then (match e2.1[(0 : Int).toNat]? with | some c3 => (match (c3.drop 0)[0]? with | some x4 => (match x4 with | .v (.int q6 n5) => (if q6 = .i64 then (match (n5 != 1) with | true => (ke (.inl false)) | false => (match zlp N (u8.1, e2.1, u8.2.2.1, u8.2.1, u8.2.2.1, (e2.1.length : Int), 0, u8.2.2.2, e2.1) with | some y27 => (match y27 with | .inl z28 => (ke (.inl z28.2.1)) | .inr z29 => (kn (z29.1, z29.2.1, (i64 (z29.2.2.1 + 1)), z29.2.2.2))) | none => none)) else none) | _ => none) | none => none) | none => none) else none))) | none => none) | none => none) else none) | false => (ke (.inr ())))
abbrev zq6 (N : Nat) (x : qL × Int × Int × qL) : Option ((Bool) ⊕ (Unit)) := (jK N).L N x
def zsQ (N : Nat) : FSpec where
 X := qL
 Y := Bool
 ad := .mk [.ags [.sl 1]] [] rfl
 ret := λ y => qR (AV.v (.bool y))
 t := λ x α k => (match (decide ((x.length : Int) > 500)) with | true => (k false) | false => (match zq6 N (x, (x.length : Int), 0, x) with | some y30 => (match y30 with | .inl z31 => (k z31) | .inr z32 => (k true)) | none => none))
abbrev zgP (N : Nat) (x : qL) : Option (Bool) := (zsQ N).d x
def zls (N : Nat) : List (Nat × LSpec) := [(8, jK N), (21, zT N)]
def zlo : Code := Tryz.f28.body.getD .skip
theorem zdz (N : Nat) : zP qP zbT N (zls N) 21 (zb 21 zlo) :=
 zy (zc qP) zf (zsP N) (l := []) an (zT N)
theorem zlr (N : Nat) : zP qP zbT N (zls N) 8 (zb 8 zlo) :=
 zy (zc qP) zf (zsP N) (l := [(21, zb 21 zlo)]) (al (zdz N) an) (jK N)
def zlq (N : Nat) : Ent qP := zG (zc qP) zf (zsP N) 28 Tryz.f28 Tryz.func28 zbT N (zls N) (l := [(8, zb 8 zlo), (21, zb 21 zlo)]) (al (zlr N) (al (zdz N) an)) (zsQ N)
def zcf : Nat -> Keep × Keep := anL [(5, ⟨[3, 10, 11], [], [], [(9, 1)], [], [], [], [], false, none, []⟩, qK [3] [] []), (14, ⟨[3, 10, 11, 17, 18], [], [], [(9, 1), (16, 29)], [], [], [], [], false, none, []⟩, ⟨[3, 10, 11], [], [], [(9, 1)], [], [], [], [], false, none, []⟩)]
def zt1 (N : Nat) : List (Ent qP) := []
def ZT (N : Nat) : LSpec where
 X := qL × qL × Int × Int × Int × Int × Int
 Y := (qL × Int × Int × Int)
 dt := .mk 29 0 (zcf 14).1.toks [(9, .lst 1), (16, .lst 29), (3, .int .i64), (10, .int .i64), (11, .int .i64), (17, .int .i64), (18, .int .i64)] [] rfl
 od := .mk 29 0 (zcf 14).2.toks [⟨.exit 2, [(9, .lst 1), (3, .int .i64), (10, .int .i64), (11, .int .i64)], [], none⟩] rfl
 b := λ u14 α kn ke => (match (decide (u14.2.2.2.2.2.2 < u14.2.2.2.2.2.1)) with | true => (if 0 <= u14.2.2.2.2.2.2 then (match u14.2.1[u14.2.2.2.2.2.2.toNat]? with | some c3 => (match zfw c3 with | some e4 => (kn (u14.1, u14.2.1, (if e4.2.1 > u14.2.2.1 then e4.2.1 else u14.2.2.1), u14.2.2.2.1, u14.2.2.2.2.1, u14.2.2.2.2.2.1, (i64 (u14.2.2.2.2.2.2 + 1)))) | none => none) | none => none) else none) | false => (ke (u14.1, u14.2.2.1, u14.2.2.2.1, u14.2.2.2.2.1)))
abbrev zmU (N : Nat) (x : qL × qL × Int × Int × Int × Int × Int) : Option ((qL × Int × Int × Int)) := (ZT N).L N x
def jQ (N : Nat) : LSpec where
 X := qL × Int × Int × Int
 Y := (Int)
 dt := .mk 29 0 (zcf 5).1.toks [(9, .lst 1), (3, .int .i64), (10, .int .i64), (11, .int .i64)] [] rfl
 od := .mk 29 0 (zcf 5).2.toks [⟨.exit 0, [(3, .int .i64)], [], none⟩] rfl
 b := λ u5 α kn ke => (match (decide (u5.2.2.2 < u5.2.2.1)) with | true => (if 0 <= u5.2.2.2 then (match u5.1[u5.2.2.2.toNat]? with | some c1 => (match zbr c1 with | some e2 => (match zmU N (u5.1, e2.1, u5.2.1, u5.2.2.1, u5.2.2.2, (e2.1.length : Int), 0) with | some y5 => (kn (y5.1, y5.2.1, y5.2.2.1, (i64 (y5.2.2.2 + 1)))) | none => none) | none => none) | none => none) else none) | false => (ke u5.2.1))
abbrev zrL (N : Nat) (x : qL × Int × Int × Int) : Option ((Int)) := (jQ N).L N x
def zt2 (N : Nat) : FSpec where
 X := qL
 Y := Int
 ad := .mk [.ags [.sl 1]] [] rfl
 ret := λ y => qR (AV.v (.int .i64 y))
 t := λ x α k => (match zrL N (x, 0, (x.length : Int), 0) with | some y6 => (k y6) | none => none)
abbrev zyw (N : Nat) (x : qL) : Option (Int) := (zt2 N).d x
def zmW (N : Nat) : List (Nat × LSpec) := [(5, jQ N), (14, ZT N)]
def zmT : Code := Tryz.f89.body.getD .skip
theorem zdX (N : Nat) : zP qP zcf N (zmW N) 14 (zb 14 zmT) :=
 zy (zc qP) zf (zt1 N) (l := []) an (ZT N)
theorem zmV (N : Nat) : zP qP zcf N (zmW N) 5 (zb 5 zmT) :=
 zy (zc qP) zf (zt1 N) (l := [(14, zb 14 zmT)]) (al (zdX N) an) (jQ N)
def zB3 (N : Nat) : Ent qP := zG (zc qP) zf (zt1 N) 89 Tryz.f89 Tryz.func89 zcf N (zmW N) (l := [(5, zb 5 zmT), (14, zb 14 zmT)]) (al (zmV N) (al (zdX N) an)) (zt2 N)
def zxv : Nat -> Keep × Keep := anL []
def zBr (N : Nat) : List (Ent qP) := [zB3 N]
def zoY (N : Nat) : FSpec where
 X := qL × Int
 Y := Int
 ad := .mk [.ags [.sl 1], .int .i64] [] rfl
 ret := λ y => qR (AV.v (.int .i64 y))
 t := λ x α k => (match (decide (x.2 < 0)) with | true => (k 2) | false => (match (decide (x.2 > 18014398509481984)) with | true => (k 2) | false => (match zyw N x.1 with | some y1 => (match (decide (x.2 < y1)) with | true => (k 9) | false => (k 0)) | none => none)))
abbrev zjP (N : Nat) (x : qL × Int) : Option (Int) := (zoY N).d x
def zxw (N : Nat) : Ent qP := zG (zc qP) zf (zBr N) 51 Tryz.f51 Tryz.func51 zxv N [] (l := []) an (zoY N)
def zyz : Nat -> Keep × Keep := anL []
def zB8 (N : Nat) : List (Ent qP) := []
def zt4 (N : Nat) : FSpec where
 X := qL
 Y := qL
 ad := .mk [.lst 9] [] rfl
 S := ⟨[[some 2000009]], [], [], [], []⟩
 ret := λ y => ⟨(AV.list 9 y (some 2560000000)), [], none, [], [2560000000], [], none⟩
 t := λ x α k => (match x with | [] => (zrY (k ([] : qL)) (if (([] : qL).length + x.length) * 104 <= zd then (k (([] : qL) ++ x)) else none)) | _ :: _ => (if (([] : qL).length + x.length) * 104 <= zd then (k (([] : qL) ++ x)) else none))
abbrev zpa (N : Nat) (x : qL) : Option (qL) := (zt4 N).d x
def zB7 (N : Nat) : Ent qP := zG (zc qP) zf (zB8 N) 91 Tryz.f91 Tryz.func91 zyz N [] (l := []) an (zt4 N)
def zxD : Nat -> Keep × Keep := anL []
def zBv (N : Nat) : List (Ent qP) := [zB7 N]
def ztk (N : Nat) : FSpec where
 X := RT0
 Y := RT0
 ad := .mk [.agg RK0] [] rfl
 S := ⟨[[none, none, none, none, none, none, none, none, none, some 9, none, none, none, none, none, none, none, none, none, none, none, none, none, none, none]], [], [], [], []⟩
 ret := λ y => qR (AV.agg (zl y))
 t := λ x α k => (match zpa N x.2.2.2.2.2.2.2.2.2.1 with | some y1 => (k (x.1, x.2.1, x.2.2.1, x.2.2.2.1, x.2.2.2.2.1, x.2.2.2.2.2.1, x.2.2.2.2.2.2.1, x.2.2.2.2.2.2.2.1, x.2.2.2.2.2.2.2.2.1, y1, x.2.2.2.2.2.2.2.2.2.2)) | none => none)
abbrev zb6 (N : Nat) (x : RT0) : Option (RT0) := (ztk N).d x
def zo0 (N : Nat) : Ent qP := zG (zc qP) zf (zBv N) 56 Tryz.f56 Tryz.func56 zxD N [] (l := []) an (ztk N)
def zsy : Nat -> Keep × Keep := anL []
def zwg (N : Nat) : List (Ent qP) := []
def zqR (N : Nat) : FSpec where
 X := Int × Int
 Y := Int × Int
 ad := .mk [.int .u64, .int .u64] [] rfl
 S := ⟨[[none], [none]], [], [], [], []⟩
 ret := λ y => qR (AV.tup [(AV.v (.int .u64 y.1)), (AV.v (.int .u64 y.2))])
 t := λ x α k => (k ((IntKind.u64.wrap ((IntKind.u64.wrap ((IntKind.u64.wrap ((shR .u64 x.1 (32 : Int)) * (shR .u64 x.2 (32 : Int)))) + (shR .u64 (IntKind.u64.wrap ((IntKind.u64.wrap ((shR .u64 x.1 (32 : Int)) * (zrU .u64 x.2 (4294967295 : Int)))) + (shR .u64 (IntKind.u64.wrap ((zrU .u64 x.1 (4294967295 : Int)) * (zrU .u64 x.2 (4294967295 : Int)))) (32 : Int)))) (32 : Int)))) + (shR .u64 (IntKind.u64.wrap ((zrU .u64 (IntKind.u64.wrap ((IntKind.u64.wrap ((shR .u64 x.1 (32 : Int)) * (zrU .u64 x.2 (4294967295 : Int)))) + (shR .u64 (IntKind.u64.wrap ((zrU .u64 x.1 (4294967295 : Int)) * (zrU .u64 x.2 (4294967295 : Int)))) (32 : Int)))) (4294967295 : Int)) + (IntKind.u64.wrap ((zrU .u64 x.1 (4294967295 : Int)) * (shR .u64 x.2 (32 : Int)))))) (32 : Int)))), (IntKind.u64.wrap (x.1 * x.2))))
abbrev zwe (N : Nat) (x : Int × Int) : Option (Int × Int) := (zqR N).d x
def zwf (N : Nat) : Ent qP := zG (zc qP) zf (zwg N) 108 Tryz.f108 Tryz.func108 zsy N [] (l := []) an (zqR N)
def zyE : Nat -> Keep × Keep := anL []
def zCd (N : Nat) : List (Ent qP) := [zwf N]
def zyF (N : Nat) : FSpec where
 X := Int × Int
 Y := Int × Int
 ad := .mk [.int .u64, .int .u64] [] rfl
 S := ⟨[[none], [none]], [], [], [], []⟩
 ret := λ y => qR (AV.tup [(AV.v (.int .u64 y.1)), (AV.v (.int .u64 y.2))])
 t := λ x α k => (match zwe N x with | some y1 => (k y1) | none => none)
abbrev zCb (N : Nat) (x : Int × Int) : Option (Int × Int) := (zyF N).d x
def zCc (N : Nat) : Ent qP := zG (zc qP) zf (zCd N) 95 Tryz.f95 Tryz.func95 zyE N [] (l := []) an (zyF N)
def zxx : Nat -> Keep × Keep := anL []
def zBs (N : Nat) : List (Ent qP) := []
def zxy (N : Nat) : FSpec where
 X := qL
 Y := RT7
 ad := .mk [.ags [.sl 29]] [] rfl
 S := ⟨[[none, none, none, none, none, none, none, none, none, none, none, none, none, some 9, none, none, none, none, none, none, none, none, none, none, none, none, none, none, none]], [], [], [], []⟩
 ret := λ y => qR (AV.agg (zo y))
 t := λ x α k => (if 0 <= (i64 ((x.length : Int) - 1)) then (match x[(i64 ((x.length : Int) - 1)).toNat]? with | some c1 => (match zfw c1 with | some e2 => (k e2) | none => none) | none => none) else none)
abbrev zjR (N : Nat) (x : qL) : Option (RT7) := (zxy N).d x
def zmb (N : Nat) : Ent qP := zG (zc qP) zf (zBs N) 53 Tryz.f53 Tryz.func53 zxx N [] (l := []) an (zxy N)
def zx6 : Nat -> Keep × Keep := anL []
def zBS (N : Nat) : List (Ent qP) := []
def zx8 (N : Nat) : FSpec where
 X := RT0 × RT0
 Y := Bool
 ad := .mk [.agg RK0, .agg RK0] [] rfl
 ret := λ y => qR (AV.v (.bool y))
 t := λ x α k => (k (((x.1.1 == x.2.1) && ((x.1.2.1 == x.2.2.1) && ((x.1.2.2.1 == x.2.2.2.1) && ((x.1.2.2.2.1 == x.2.2.2.2.1) && true)))) && ((x.1.2.2.2.2.1 == x.2.2.2.2.2.1) && ((x.1.2.2.2.2.2.1 == x.2.2.2.2.2.2.1) && ((x.1.2.2.2.2.2.2.1 == x.2.2.2.2.2.2.2.1) && ((x.1.2.2.2.2.2.2.2.1 == x.2.2.2.2.2.2.2.2.1) && ((x.1.2.2.2.2.2.2.2.2.1 == x.2.2.2.2.2.2.2.2.2.1) && true)))))))
abbrev zx7 (N : Nat) (x : RT0 × RT0) : Option (Bool) := (zx8 N).d x
def zBR (N : Nat) : Ent qP := zG (zc qP) zf (zBS N) 77 Tryz.f77 Tryz.func77 zx6 N [] (l := []) an (zx8 N)
def zeC : Nat -> Keep × Keep := anL [(12, ⟨[7, 8], [], [30], [], [], [], [], [30], false, none, []⟩, ⟨[7], [], [30], [], [], [], [], [30], false, none, []⟩)]
def zrE (N : Nat) : List (Ent qP) := [zCc N]
def zeD (N : Nat) : LSpec where
 X := Nat × Int × qA
 Y := (Nat × qA)
 dt := .mk 48 0 (zeC 12).1.toks [(7, .vs0 30 1), (8, .int .i64)] [(30, .tt)] rfl
 od := .mk 48 0 (zeC 12).2.toks [⟨.exit 0, [(7, .vs0 30 1)], [(30, .tt)], none⟩] rfl
 b := λ u12 α kn ke => (match (decide (u12.2.1 < ((u12.1 : Nat) : Int))) with | true => (if 0 <= u12.2.1 /\ u12.2.1 <= (u12.1 : Int) then (if 0 <= u12.2.1 /\ u12.2.1 <= (u12.1 : Int) then (if (0 + (u12.2.1.toNat)) * 1 <= u12.2.2.length then (if ((0 + u12.2.1.toNat) + (u12.1 - u12.2.1.toNat)) * 1 <= u12.2.2.length then (kn (u12.1, (i64 (u12.2.1 + (((Nat.min (u12.2.1.toNat) (u12.1 - u12.2.1.toNat)) : Nat) : Int))), ((splice u12.2.2 ((0 + u12.2.1.toNat) * 1) ((u12.2.2.drop (0 * 1)).take ((Nat.min (u12.2.1.toNat) (u12.1 - u12.2.1.toNat)) * 1))).map dat0))) else none) else none) else none) else none) | false => (ke (u12.1, (u12.2.2.map dat0))))
abbrev zo8 (N : Nat) (x : Nat × Int × qA) : Option ((Nat × qA)) := (zeD N).L N x
def zrF (N : Nat) : FSpec where
 X := qL × Int
 Y := Nat × qA
 ad := .mk [.lst 1, .int .i64] [] rfl
 S := ⟨[[some 1000001]], [], [], [], []⟩
 bm := true
 ret := λ y => ⟨(AV.vs 0 0 y.1 1), [], some y.2, [], [], [], none⟩
 t := λ x α k => (match (decide (x.2 < 0)) with | true => none | false => (match zCb N ((IntKind.u64.wrap (x.1.length : Int)), (IntKind.u64.wrap x.2)) with | some y1 => (match (decide (y1.1 > 0)) with | true => none | false => (match (decide (y1.2 > 9223372036854775807)) with | true => none | false => (if 0 <= (IntKind.i64.wrap y1.2) /\ (IntKind.i64.wrap y1.2) <= (IntKind.i64.wrap y1.2) /\ (IntKind.i64.wrap y1.2).toNat * 8 <= zd then (if (0 + ((IntKind.i64.wrap y1.2).toNat)) * 1 <= (List.replicate (IntKind.i64.wrap y1.2).toNat (AV.v (.int .i64 0))).length then (match zo8 N (((IntKind.i64.wrap y1.2).toNat), (((Nat.min x.1.length ((IntKind.i64.wrap y1.2).toNat)) : Nat) : Int), ((splice (List.replicate (IntKind.i64.wrap y1.2).toNat (AV.v (.int .i64 0))) (0 * 1) ((x.1.take (Nat.min x.1.length ((IntKind.i64.wrap y1.2).toNat))).flatten)).map dat0)) with | some y2 => (k (y2.1, (y2.2.map dat0))) | none => none) else none) else none))) | none => none))
abbrev zmz (N : Nat) (x : qL × Int) : Option (Nat × qA) := (zrF N).d x
def zmA (N : Nat) : List (Nat × LSpec) := [(12, zeD N)]
def zrD : Code := Tryz.f75.body.getD .skip
theorem zg6 (N : Nat) : zP qP zeC N (zmA N) 12 (zb 12 zrD) :=
 zy (zc qP) zf (zrE N) (l := []) an (zeD N)
def zx4 (N : Nat) : Ent qP := zG (zc qP) zf (zrE N) 75 Tryz.f75 Tryz.func75 zeC N (zmA N) (l := [(12, zb 12 zrD)]) (al (zg6 N) an) (zrF N)
def zcc : Nat -> Keep × Keep := anL [(2, ⟨[0, 2, 3, 4, 12, 13], [], [0, 1, 2, 3, 4, 5], [(11, 1)], [], [], [], [4, 5], false, none, []⟩, ⟨[], [], [0, 1, 2, 3, 4, 5], [], [], [], [], [4, 5], false, none, []⟩), (14, ⟨[0, 2, 3, 4, 6, 7, 12, 13, 30, 31], [], [0, 1, 2, 3, 4, 5, 7], [(11, 1), (29, 25)], [], [], [], [4, 5], false, none, []⟩, ⟨[0, 2, 3, 4, 12, 13], [], [0, 1, 2, 3, 4, 5], [(11, 1)], [], [], [], [4, 5], false, none, []⟩)]
def ztO (N : Nat) : List (Ent qP) := [zmb N, zBR N]
def zaJ (N : Nat) : LSpec where
 X := qL × qL × Int × Int × Int × Int × Int × qL × Nat × qL × Nat × qA × qA × qL
 Y := (qL × Int × Int × qL × Nat × qL × Nat × qA × qA)
 dt := .mk 58 6 (zcc 14).1.toks [(11, .lst 1), (29, .lst 25), (0, .fn0 77), (2, .ptr 1 0), (3, .ptr 2 0), (4, .ptr 3 0), (6, .int .i64), (7, .ptr 7 0), (12, .int .i64), (13, .int .i64), (30, .int .i64), (31, .int .i64)] [(0, .cells [.lst 1]), (1, .cells [.vs0 4 1]), (2, .cells [.lst 25]), (3, .cells [.vs0 5 1]), (4, .tt), (5, .tt), (7, .cells [.lst 29])] rfl
 od := .mk 58 6 (zcc 14).2.toks [⟨.exit 2, [(11, .lst 1), (0, .fn0 77), (2, .ptr 1 0), (3, .ptr 2 0), (4, .ptr 3 0), (12, .int .i64), (13, .int .i64)], [(0, .cells [.lst 1]), (1, .cells [.vs0 4 1]), (2, .cells [.lst 25]), (3, .cells [.vs0 5 1]), (4, .tt), (5, .tt)], none⟩] rfl
 b := λ u14 α kn ke => (match (decide (u14.2.2.2.2.2.2.1 < u14.2.2.2.2.2.1)) with | true => (if 0 <= u14.2.2.2.2.2.2.1 then (match u14.2.1[u14.2.2.2.2.2.2.1.toNat]? with | some c12 => (match zeE c12 with | some e13 => (if 0 <= u14.2.2.2.2.2.2.1 /\ u14.2.2.2.2.2.2.1 < (u14.2.2.2.2.2.2.2.2.2.2.1 : Int) then (match u14.2.2.2.2.2.2.2.2.2.2.2.2.1[((0 + u14.2.2.2.2.2.2.1.toNat) * 1)]? with | some x14 => (match x14 with | .v (.bool b15) => (match (!b15) with | true => (match zjR N u14.2.2.2.2.2.2.2.2.2.2.2.2.2 with | some y16 => (match zx7 N ((zm y16), e13) with | some y17 => (match y17 with | true => (if 0 <= u14.2.2.1 /\ u14.2.2.1 < (u14.2.2.2.2.2.2.2.2.1 : Int) then (if ((0 + u14.2.2.1.toNat) * 1) + 1 <= u14.2.2.2.2.2.2.2.2.2.2.2.1.length then (if 0 <= u14.2.2.2.2.2.2.1 /\ u14.2.2.2.2.2.2.1 < (u14.2.2.2.2.2.2.2.2.2.2.1 : Int) then (if ((0 + u14.2.2.2.2.2.2.1.toNat) * 1) + 1 <= u14.2.2.2.2.2.2.2.2.2.2.2.2.1.length then (ke (u14.1, u14.2.2.2.1, u14.2.2.2.2.1, u14.2.2.2.2.2.2.2.1, u14.2.2.2.2.2.2.2.2.1, u14.2.2.2.2.2.2.2.2.2.1, u14.2.2.2.2.2.2.2.2.2.2.1, ((splice u14.2.2.2.2.2.2.2.2.2.2.2.1 ((0 + u14.2.2.1.toNat) * 1) [(AV.v (.int .i64 u14.2.2.2.2.2.2.1))]).map dat0), ((splice u14.2.2.2.2.2.2.2.2.2.2.2.2.1 ((0 + u14.2.2.2.2.2.2.1.toNat) * 1) [(AV.v (.bool true))]).map dat0))) else none) else none) else none) else none) | false => (kn (u14.1, u14.2.1, u14.2.2.1, u14.2.2.2.1, u14.2.2.2.2.1, u14.2.2.2.2.2.1, (i64 (u14.2.2.2.2.2.2.1 + 1)), u14.2.2.2.2.2.2.2.1, u14.2.2.2.2.2.2.2.2.1, u14.2.2.2.2.2.2.2.2.2.1, u14.2.2.2.2.2.2.2.2.2.2.1, (u14.2.2.2.2.2.2.2.2.2.2.2.1.map dat0), (u14.2.2.2.2.2.2.2.2.2.2.2.2.1.map dat0), u14.2.2.2.2.2.2.2.2.2.2.2.2.2))) | none => none) | none => none) | false => (kn (u14.1, u14.2.1, u14.2.2.1, u14.2.2.2.1, u14.2.2.2.2.1, u14.2.2.2.2.2.1, (i64 (u14.2.2.2.2.2.2.1 + 1)), u14.2.2.2.2.2.2.2.1, u14.2.2.2.2.2.2.2.2.1, u14.2.2.2.2.2.2.2.2.2.1, u14.2.2.2.2.2.2.2.2.2.2.1, (u14.2.2.2.2.2.2.2.2.2.2.2.1.map dat0), (u14.2.2.2.2.2.2.2.2.2.2.2.2.1.map dat0), u14.2.2.2.2.2.2.2.2.2.2.2.2.2))) | _ => none) | none => none) else none) | none => none) | none => none) else none) | false => (ke (u14.1, u14.2.2.2.1, u14.2.2.2.2.1, u14.2.2.2.2.2.2.2.1, u14.2.2.2.2.2.2.2.2.1, u14.2.2.2.2.2.2.2.2.2.1, u14.2.2.2.2.2.2.2.2.2.2.1, (u14.2.2.2.2.2.2.2.2.2.2.2.1.map dat0), (u14.2.2.2.2.2.2.2.2.2.2.2.2.1.map dat0))))
abbrev zmC (N : Nat) (x : qL × qL × Int × Int × Int × Int × Int × qL × Nat × qL × Nat × qA × qA × qL) : Option ((qL × Int × Int × qL × Nat × qL × Nat × qA × qA)) := (zaJ N).L N x
def zdU (N : Nat) : LSpec where
 X := qL × Int × Int × qL × Nat × qL × Nat × qA × qA
 Y := (qL × Nat × qL × Nat × qA × qA)
 dt := .mk 58 6 (zcc 2).1.toks [(11, .lst 1), (0, .fn0 77), (2, .ptr 1 0), (3, .ptr 2 0), (4, .ptr 3 0), (12, .int .i64), (13, .int .i64)] [(0, .cells [.lst 1]), (1, .cells [.vs0 4 1]), (2, .cells [.lst 25]), (3, .cells [.vs0 5 1]), (4, .tt), (5, .tt)] rfl
 od := .mk 58 6 (zcc 2).2.toks [⟨.exit 0, [], [(0, .cells [.lst 1]), (1, .cells [.vs0 4 1]), (2, .cells [.lst 25]), (3, .cells [.vs0 5 1]), (4, .tt), (5, .tt)], none⟩] rfl
 b := λ u2 α kn ke => (match (decide (u2.2.2.1 < u2.2.1)) with | true => (if 0 <= u2.2.2.1 then (match u2.1[u2.2.2.1.toNat]? with | some c19 => (match zbr c19 with | some e20 => (if 0 <= u2.2.2.1 /\ u2.2.2.1 < (u2.2.2.2.2.1 : Int) then (match u2.2.2.2.2.2.2.2.1[((0 + u2.2.2.1.toNat) * 1)]? with | some x21 => (match x21 with | .v (.int q23 n22) => (if q23 = .i64 then (match (decide (n22 >= 0)) with | true => (kn (u2.1, u2.2.1, (i64 (u2.2.2.1 + 1)), u2.2.2.2.1, u2.2.2.2.2.1, u2.2.2.2.2.2.1, u2.2.2.2.2.2.2.1, (u2.2.2.2.2.2.2.2.1.map dat0), (u2.2.2.2.2.2.2.2.2.map dat0))) | false => (match ((e20.1.length : Int) == 0) with | true => (kn (u2.1, u2.2.1, (i64 (u2.2.2.1 + 1)), u2.2.2.2.1, u2.2.2.2.2.1, u2.2.2.2.2.2.1, u2.2.2.2.2.2.2.1, (u2.2.2.2.2.2.2.2.1.map dat0), (u2.2.2.2.2.2.2.2.2.map dat0))) | false => (match zmC N (u2.1, u2.2.2.2.2.2.1, u2.2.2.1, u2.2.1, u2.2.2.1, (u2.2.2.2.2.2.1.length : Int), 0, u2.2.2.2.1, u2.2.2.2.2.1, u2.2.2.2.2.2.1, u2.2.2.2.2.2.2.1, (u2.2.2.2.2.2.2.2.1.map dat0), (u2.2.2.2.2.2.2.2.2.map dat0), e20.1) with | some y24 => (kn (y24.1, y24.2.1, (i64 (y24.2.2.1 + 1)), y24.2.2.2.1, y24.2.2.2.2.1, y24.2.2.2.2.2.1, y24.2.2.2.2.2.2.1, (y24.2.2.2.2.2.2.2.1.map dat0), (y24.2.2.2.2.2.2.2.2.map dat0))) | none => none))) else none) | _ => none) | none => none) else none) | none => none) | none => none) else none) | false => (ke (u2.2.2.2.1, u2.2.2.2.2.1, u2.2.2.2.2.2.1, u2.2.2.2.2.2.2.1, (u2.2.2.2.2.2.2.2.1.map dat0), (u2.2.2.2.2.2.2.2.2.map dat0))))
abbrev zrG (N : Nat) (x : qL × Int × Int × qL × Nat × qL × Nat × qA × qA) : Option ((qL × Nat × qL × Nat × qA × qA)) := (zdU N).L N x
def ztP (N : Nat) : FSpec where
 X := qL × Nat × qL × Nat × qA × qA
 Y := qL × Nat × qL × Nat × qA × qA
 ad := .mk [.fn0 77, .ptr 0 0, .ptr 1 0, .ptr 2 0, .ptr 3 0] [.cells [.lst 1], .cells [.vs0 4 1], .cells [.lst 25], .cells [.vs0 5 1], .tt, .tt] rfl
 bsh := [[some 1], [none], [some 25], [none], [], []]
 S := ⟨[], [[some 1], [some 2000001], [some 25], [some 2000001], [], []], [], [], [4, 5]⟩
 ret := λ y => ⟨(AV.tup []), [[(AV.list 1 y.1 none)], [(AV.vs 4 0 y.2.1 1)], [(AV.list 25 y.2.2.1 none)], [(AV.vs 5 0 y.2.2.2.1 1)], y.2.2.2.2.1, y.2.2.2.2.2], none, [], [], [4, 5], none⟩
 t := λ x α k => (match zrG N (x.1, (x.1.length : Int), 0, x.1, x.2.1, x.2.2.1, x.2.2.2.1, (x.2.2.2.2.1.map dat0), (x.2.2.2.2.2.map dat0)) with | some y25 => (k (y25.1, y25.2.1, y25.2.2.1, y25.2.2.2.1, (y25.2.2.2.2.1.map dat0), (y25.2.2.2.2.2.map dat0))) | none => none)
abbrev ztN (N : Nat) (x : qL × Nat × qL × Nat × qA × qA) : Option (qL × Nat × qL × Nat × qA × qA) := (ztP N).d x
def zmE (N : Nat) : List (Nat × LSpec) := [(2, zdU N), (14, zaJ N)]
def zmB : Code := Tryz.f76.body.getD .skip
theorem zdV (N : Nat) : zP qP zcc N (zmE N) 14 (zb 14 zmB) :=
 zy (zc qP) zf (ztO N) (l := []) an (zaJ N)
theorem zmD (N : Nat) : zP qP zcc N (zmE N) 2 (zb 2 zmB) :=
 zy (zc qP) zf (ztO N) (l := [(14, zb 14 zmB)]) (al (zdV N) an) (zdU N)
def zBQ (N : Nat) : Ent qP := zG (zc qP) zf (ztO N) 76 Tryz.f76 Tryz.func76 zcc N (zmE N) (l := [(2, zb 2 zmB), (14, zb 14 zmB)]) (al (zmD N) (al (zdV N) an)) (ztP N)
def zer : Nat -> Keep × Keep := anL [(4, ⟨[3, 7, 8], [], [3], [(0, 9)], [], [], [], [], false, none, []⟩, qK [4] [] [])]
def zqZ (N : Nat) : List (Ent qP) := []
def Zs (N : Nat) : LSpec where
 X := qL × Int × Int × RT1
 Y := (Int) ⊕ (Unit)
 dt := .mk 19 0 (zer 4).1.toks [(0, .lst 9), (3, .ptr 3 0), (7, .int .i64), (8, .int .i64)] [(3, .row RK1)] rfl
 od := .mk 19 0 (zer 4).2.toks [⟨.ret, [(4, .int .i64)], [], none⟩, ⟨.exit 0, [], [], none⟩] rfl
 b := λ u4 α kn ke => (match (decide (u4.2.2.1 < u4.2.1)) with | true => (if 0 <= u4.2.2.1 then (match u4.1[u4.2.2.1.toNat]? with | some c1 => (match jk c1 with | some e2 => (match (((u4.2.2.2.1 == e2.1) && ((u4.2.2.2.2.1 == e2.2.1) && ((u4.2.2.2.2.2.1 == e2.2.2.1) && ((u4.2.2.2.2.2.2.1 == e2.2.2.2.1) && true)))) && ((u4.2.2.2.2.2.2.2.1 == e2.2.2.2.2.1) && ((u4.2.2.2.2.2.2.2.2.1 == e2.2.2.2.2.2.1) && ((u4.2.2.2.2.2.2.2.2.2.1 == e2.2.2.2.2.2.2.1) && ((u4.2.2.2.2.2.2.2.2.2.2.1 == e2.2.2.2.2.2.2.2.1) && ((u4.2.2.2.2.2.2.2.2.2.2.2.1 == e2.2.2.2.2.2.2.2.2.1) && true)))))) with | true => (ke (.inl u4.2.2.1)) | false => (kn (u4.1, u4.2.1, (i64 (u4.2.2.1 + 1)), u4.2.2.2))) | none => none) | none => none) else none) | false => (ke (.inr ())))
abbrev zk1 (N : Nat) (x : qL × Int × Int × RT1) : Option ((Int) ⊕ (Unit)) := (Zs N).L N x
def zk3 (N : Nat) : FSpec where
 X := qL × RT1
 Y := Int
 ad := .mk [.lst 9, .agg RK1] [] rfl
 ret := λ y => qR (AV.v (.int .i64 y))
 t := λ x α k => (match zk1 N (x.1, (x.1.length : Int), 0, x.2) with | some y3 => (match y3 with | .inl z4 => (k z4) | .inr z5 => (k (-1))) | none => none)
abbrev zqY (N : Nat) (x : qL × RT1) : Option (Int) := (zk3 N).d x
def zk2 (N : Nat) : List (Nat × LSpec) := [(4, Zs N)]
def zqX : Code := Tryz.f110.body.getD .skip
theorem zjv (N : Nat) : zP qP zer N (zk2 N) 4 (zb 4 zqX) :=
 zy (zc qP) zf (zqZ N) (l := []) an (Zs N)
def zwk (N : Nat) : Ent qP := zG (zc qP) zf (zqZ N) 110 Tryz.f110 Tryz.func110 zer N (zk2 N) (l := [(4, zb 4 zqX)]) (al (zjv N) an) (zk3 N)
def zyJ : Nat -> Keep × Keep := anL []
def zCj (N : Nat) : List (Ent qP) := [zwk N]
def zub (N : Nat) : FSpec where
 X := qL × RT1
 Y := Bool
 ad := .mk [.lst 9, .agg RK1] [] rfl
 ret := λ y => qR (AV.v (.bool y))
 t := λ x α k => (match zqY N x with | some y1 => (k (decide (y1 >= 0))) | none => none)
abbrev zua (N : Nat) (x : qL × RT1) : Option (Bool) := (zub N).d x
def zCi (N : Nat) : Ent qP := zG (zc qP) zf (zCj N) 98 Tryz.f98 Tryz.func98 zyJ N [] (l := []) an (zub N)
def zyI : Nat -> Keep × Keep := anL []
def zCh (N : Nat) : List (Ent qP) := [zCi N]
def zt9 (N : Nat) : FSpec where
 X := RT1 × RT0
 Y := Bool × RT0
 ad := .mk [.agg RK1, .ptr 0 0] [.row RK0] rfl
 bsh := [[none, none, none, none, none, none, none, none, none, some 9, none, none, none, none, none, none, none, none, none, none, none, none, none, none, none]]
 S := ⟨[[none]], [[]], [], [], []⟩
 ret := λ y => ⟨(AV.v (.bool y.1)), [(zl y.2)], none, [], [], [], none⟩
 t := λ x α k => (match zua N (x.2.2.2.2.2.2.2.2.2.2.1, x.1) with | some y1 => (k (y1, x.2)) | none => none)
abbrev zt8 (N : Nat) (x : RT1 × RT0) : Option (Bool × RT0) := (zt9 N).d x
def zCg (N : Nat) : Ent qP := zG (zc qP) zf (zCh N) 97 Tryz.f97 Tryz.func97 zyI N [] (l := []) an (zt9 N)
def zeq : Nat -> Keep × Keep := anL [(4, ⟨[1, 7, 8], [], [0], [(0, 9)], [], [], [], [], false, none, []⟩, qK [4] [] [0])]
def zqU (N : Nat) : List (Ent qP) := [zCg N]
def Zr (N : Nat) : LSpec where
 X := qL × Int × Int × RT0
 Y := (Int × RT0) ⊕ (RT0)
 dt := .mk 19 1 (zeq 4).1.toks [(0, .lst 9), (1, .fn1 97 0), (7, .int .i64), (8, .int .i64)] [(0, .row RK0)] rfl
 od := .mk 19 1 (zeq 4).2.toks [⟨.ret, [(4, .int .i64)], [(0, .row RK0)], none⟩, ⟨.exit 0, [], [(0, .row RK0)], none⟩] rfl
 b := λ u4 α kn ke => (match (decide (u4.2.2.1 < u4.2.1)) with | true => (if 0 <= u4.2.2.1 then (match u4.1[u4.2.2.1.toNat]? with | some c4 => (match jk c4 with | some e5 => (match zt8 N (e5, u4.2.2.2) with | some y6 => (match y6.1 with | true => (ke (.inl (u4.2.2.1, y6.2))) | false => (kn (u4.1, u4.2.1, (i64 (u4.2.2.1 + 1)), y6.2))) | none => none) | none => none) | none => none) else none) | false => (ke (.inr u4.2.2.2)))
abbrev zkX (N : Nat) (x : qL × Int × Int × RT0) : Option ((Int × RT0) ⊕ (RT0)) := (Zr N).L N x
def zkZ (N : Nat) : FSpec where
 X := qL × RT0
 Y := Int × RT0
 ad := .mk [.lst 9, .fn1 97 0] [.row RK0] rfl
 bsh := [[none, none, none, none, none, none, none, none, none, some 9, none, none, none, none, none, none, none, none, none, none, none, none, none, none, none]]
 S := ⟨[[none]], [[]], [], [], []⟩
 ret := λ y => ⟨(AV.v (.int .i64 y.1)), [(zl y.2)], none, [], [], [], none⟩
 t := λ x α k => (match zkX N (x.1, (x.1.length : Int), 0, x.2) with | some y7 => (match y7 with | .inl z8 => (k z8) | .inr z9 => (k ((-1), z9))) | none => none)
abbrev zqT (N : Nat) (x : qL × RT0) : Option (Int × RT0) := (zkZ N).d x
def zkY (N : Nat) : List (Nat × LSpec) := [(4, Zr N)]
def zqS : Code := Tryz.f109.body.getD .skip
theorem zju (N : Nat) : zP qP zeq N (zkY N) 4 (zb 4 zqS) :=
 zy (zc qP) zf (zqU N) (l := []) an (Zr N)
def zwh (N : Nat) : Ent qP := zG (zc qP) zf (zqU N) 109 Tryz.f109 Tryz.func109 zeq N (zkY N) (l := [(4, zb 4 zqS)]) (al (zju N) an) (zkZ N)
def zyG : Nat -> Keep × Keep := anL []
def zCf (N : Nat) : List (Ent qP) := [zwh N]
def zt7 (N : Nat) : FSpec where
 X := qL × RT0
 Y := Bool × RT0
 ad := .mk [.lst 9, .fn1 97 0] [.row RK0] rfl
 bsh := [[none, none, none, none, none, none, none, none, none, some 9, none, none, none, none, none, none, none, none, none, none, none, none, none, none, none]]
 S := ⟨[[none]], [[none, none, none, none, none, none, none, none, none, some 9, none, none, none, none, none, none, none, none, none, none, none, none, none, none, none]], [], [], []⟩
 ret := λ y => ⟨(AV.v (.bool y.1)), [(zl y.2)], none, [], [], [], none⟩
 t := λ x α k => (match zqT N x with | some y1 => (k ((decide (y1.1 >= 0)), y1.2)) | none => none)
abbrev zyH (N : Nat) (x : qL × RT0) : Option (Bool × RT0) := (zt7 N).d x
def zCe (N : Nat) : Ent qP := zG (zc qP) zf (zCf N) 96 Tryz.f96 Tryz.func96 zyG N [] (l := []) an (zt7 N)
def zx9 : Nat -> Keep × Keep := anL []
def zBU (N : Nat) : List (Ent qP) := [zCe N]
def ztQ (N : Nat) : FSpec where
 X := RT0 × RT0
 Y := Bool
 ad := .mk [.agg RK0, .agg RK0] [] rfl
 ret := λ y => qR (AV.v (.bool y))
 t := λ x α k => (match zyH N (x.1.2.2.2.2.2.2.2.2.2.1, x.2) with | some y1 => (k y1.1) | none => none)
abbrev zo9 (N : Nat) (x : RT0 × RT0) : Option (Bool) := (ztQ N).d x
def zBT (N : Nat) : Ent qP := zG (zc qP) zf (zBU N) 78 Tryz.f78 Tryz.func78 zx9 N [] (l := []) an (ztQ N)
def JT : Nat -> Keep × Keep := anL [(2, ⟨[0, 2, 3, 4, 12, 13], [], [0, 1, 2, 3, 4, 5], [(11, 1)], [], [], [], [4, 5], false, none, []⟩, ⟨[], [], [0, 1, 2, 3, 4, 5], [], [], [], [], [4, 5], false, none, []⟩), (14, ⟨[0, 2, 3, 4, 6, 7, 12, 13, 30, 31], [], [0, 1, 2, 3, 4, 5, 7], [(11, 1), (29, 25)], [], [], [], [4, 5], false, none, []⟩, ⟨[0, 2, 3, 4, 12, 13], [], [0, 1, 2, 3, 4, 5], [(11, 1)], [], [], [], [4, 5], false, none, []⟩)]
def zmH (N : Nat) : List (Ent qP) := [zmb N, zBT N]
def Jv (N : Nat) : LSpec where
 X := qL × qL × Int × Int × Int × Int × Int × qL × Nat × qL × Nat × qA × qA × qL
 Y := (qL × Int × Int × qL × Nat × qL × Nat × qA × qA)
 dt := .mk 58 6 (JT 14).1.toks [(11, .lst 1), (29, .lst 25), (0, .fn0 78), (2, .ptr 1 0), (3, .ptr 2 0), (4, .ptr 3 0), (6, .int .i64), (7, .ptr 7 0), (12, .int .i64), (13, .int .i64), (30, .int .i64), (31, .int .i64)] [(0, .cells [.lst 1]), (1, .cells [.vs0 4 1]), (2, .cells [.lst 25]), (3, .cells [.vs0 5 1]), (4, .tt), (5, .tt), (7, .cells [.lst 29])] rfl
 od := .mk 58 6 (JT 14).2.toks [⟨.exit 2, [(11, .lst 1), (0, .fn0 78), (2, .ptr 1 0), (3, .ptr 2 0), (4, .ptr 3 0), (12, .int .i64), (13, .int .i64)], [(0, .cells [.lst 1]), (1, .cells [.vs0 4 1]), (2, .cells [.lst 25]), (3, .cells [.vs0 5 1]), (4, .tt), (5, .tt)], none⟩] rfl
 b := λ u14 α kn ke => (match (decide (u14.2.2.2.2.2.2.1 < u14.2.2.2.2.2.1)) with | true => (if 0 <= u14.2.2.2.2.2.2.1 then (match u14.2.1[u14.2.2.2.2.2.2.1.toNat]? with | some c12 => (match zeE c12 with | some e13 => (if 0 <= u14.2.2.2.2.2.2.1 /\ u14.2.2.2.2.2.2.1 < (u14.2.2.2.2.2.2.2.2.2.2.1 : Int) then (match u14.2.2.2.2.2.2.2.2.2.2.2.2.1[((0 + u14.2.2.2.2.2.2.1.toNat) * 1)]? with | some x14 => (match x14 with | .v (.bool b15) => (match (!b15) with | true => (match zjR N u14.2.2.2.2.2.2.2.2.2.2.2.2.2 with | some y16 => (match zo9 N ((zm y16), e13) with | some y17 => (match y17 with | true => (if 0 <= u14.2.2.1 /\ u14.2.2.1 < (u14.2.2.2.2.2.2.2.2.1 : Int) then (if ((0 + u14.2.2.1.toNat) * 1) + 1 <= u14.2.2.2.2.2.2.2.2.2.2.2.1.length then (if 0 <= u14.2.2.2.2.2.2.1 /\ u14.2.2.2.2.2.2.1 < (u14.2.2.2.2.2.2.2.2.2.2.1 : Int) then (if ((0 + u14.2.2.2.2.2.2.1.toNat) * 1) + 1 <= u14.2.2.2.2.2.2.2.2.2.2.2.2.1.length then (ke (u14.1, u14.2.2.2.1, u14.2.2.2.2.1, u14.2.2.2.2.2.2.2.1, u14.2.2.2.2.2.2.2.2.1, u14.2.2.2.2.2.2.2.2.2.1, u14.2.2.2.2.2.2.2.2.2.2.1, ((splice u14.2.2.2.2.2.2.2.2.2.2.2.1 ((0 + u14.2.2.1.toNat) * 1) [(AV.v (.int .i64 u14.2.2.2.2.2.2.1))]).map dat0), ((splice u14.2.2.2.2.2.2.2.2.2.2.2.2.1 ((0 + u14.2.2.2.2.2.2.1.toNat) * 1) [(AV.v (.bool true))]).map dat0))) else none) else none) else none) else none) | false => (kn (u14.1, u14.2.1, u14.2.2.1, u14.2.2.2.1, u14.2.2.2.2.1, u14.2.2.2.2.2.1, (i64 (u14.2.2.2.2.2.2.1 + 1)), u14.2.2.2.2.2.2.2.1, u14.2.2.2.2.2.2.2.2.1, u14.2.2.2.2.2.2.2.2.2.1, u14.2.2.2.2.2.2.2.2.2.2.1, (u14.2.2.2.2.2.2.2.2.2.2.2.1.map dat0), (u14.2.2.2.2.2.2.2.2.2.2.2.2.1.map dat0), u14.2.2.2.2.2.2.2.2.2.2.2.2.2))) | none => none) | none => none) | false => (kn (u14.1, u14.2.1, u14.2.2.1, u14.2.2.2.1, u14.2.2.2.2.1, u14.2.2.2.2.2.1, (i64 (u14.2.2.2.2.2.2.1 + 1)), u14.2.2.2.2.2.2.2.1, u14.2.2.2.2.2.2.2.2.1, u14.2.2.2.2.2.2.2.2.2.1, u14.2.2.2.2.2.2.2.2.2.2.1, (u14.2.2.2.2.2.2.2.2.2.2.2.1.map dat0), (u14.2.2.2.2.2.2.2.2.2.2.2.2.1.map dat0), u14.2.2.2.2.2.2.2.2.2.2.2.2.2))) | _ => none) | none => none) else none) | none => none) | none => none) else none) | false => (ke (u14.1, u14.2.2.2.1, u14.2.2.2.2.1, u14.2.2.2.2.2.2.2.1, u14.2.2.2.2.2.2.2.2.1, u14.2.2.2.2.2.2.2.2.2.1, u14.2.2.2.2.2.2.2.2.2.2.1, (u14.2.2.2.2.2.2.2.2.2.2.2.1.map dat0), (u14.2.2.2.2.2.2.2.2.2.2.2.2.1.map dat0))))
abbrev zin (N : Nat) (x : qL × qL × Int × Int × Int × Int × Int × qL × Nat × qL × Nat × qA × qA × qL) : Option ((qL × Int × Int × qL × Nat × qL × Nat × qA × qA)) := (Jv N).L N x
def zaK (N : Nat) : LSpec where
 X := qL × Int × Int × qL × Nat × qL × Nat × qA × qA
 Y := (qL × Nat × qL × Nat × qA × qA)
 dt := .mk 58 6 (JT 2).1.toks [(11, .lst 1), (0, .fn0 78), (2, .ptr 1 0), (3, .ptr 2 0), (4, .ptr 3 0), (12, .int .i64), (13, .int .i64)] [(0, .cells [.lst 1]), (1, .cells [.vs0 4 1]), (2, .cells [.lst 25]), (3, .cells [.vs0 5 1]), (4, .tt), (5, .tt)] rfl
 od := .mk 58 6 (JT 2).2.toks [⟨.exit 0, [], [(0, .cells [.lst 1]), (1, .cells [.vs0 4 1]), (2, .cells [.lst 25]), (3, .cells [.vs0 5 1]), (4, .tt), (5, .tt)], none⟩] rfl
 b := λ u2 α kn ke => (match (decide (u2.2.2.1 < u2.2.1)) with | true => (if 0 <= u2.2.2.1 then (match u2.1[u2.2.2.1.toNat]? with | some c19 => (match zbr c19 with | some e20 => (if 0 <= u2.2.2.1 /\ u2.2.2.1 < (u2.2.2.2.2.1 : Int) then (match u2.2.2.2.2.2.2.2.1[((0 + u2.2.2.1.toNat) * 1)]? with | some x21 => (match x21 with | .v (.int q23 n22) => (if q23 = .i64 then (match (decide (n22 >= 0)) with | true => (kn (u2.1, u2.2.1, (i64 (u2.2.2.1 + 1)), u2.2.2.2.1, u2.2.2.2.2.1, u2.2.2.2.2.2.1, u2.2.2.2.2.2.2.1, (u2.2.2.2.2.2.2.2.1.map dat0), (u2.2.2.2.2.2.2.2.2.map dat0))) | false => (match ((e20.1.length : Int) == 0) with | true => (kn (u2.1, u2.2.1, (i64 (u2.2.2.1 + 1)), u2.2.2.2.1, u2.2.2.2.2.1, u2.2.2.2.2.2.1, u2.2.2.2.2.2.2.1, (u2.2.2.2.2.2.2.2.1.map dat0), (u2.2.2.2.2.2.2.2.2.map dat0))) | false => (match zin N (u2.1, u2.2.2.2.2.2.1, u2.2.2.1, u2.2.1, u2.2.2.1, (u2.2.2.2.2.2.1.length : Int), 0, u2.2.2.2.1, u2.2.2.2.2.1, u2.2.2.2.2.2.1, u2.2.2.2.2.2.2.1, (u2.2.2.2.2.2.2.2.1.map dat0), (u2.2.2.2.2.2.2.2.2.map dat0), e20.1) with | some y24 => (kn (y24.1, y24.2.1, (i64 (y24.2.2.1 + 1)), y24.2.2.2.1, y24.2.2.2.2.1, y24.2.2.2.2.2.1, y24.2.2.2.2.2.2.1, (y24.2.2.2.2.2.2.2.1.map dat0), (y24.2.2.2.2.2.2.2.2.map dat0))) | none => none))) else none) | _ => none) | none => none) else none) | none => none) | none => none) else none) | false => (ke (u2.2.2.2.1, u2.2.2.2.2.1, u2.2.2.2.2.2.1, u2.2.2.2.2.2.2.1, (u2.2.2.2.2.2.2.2.1.map dat0), (u2.2.2.2.2.2.2.2.2.map dat0))))
abbrev zmG (N : Nat) (x : qL × Int × Int × qL × Nat × qL × Nat × qA × qA) : Option ((qL × Nat × qL × Nat × qA × qA)) := (zaK N).L N x
def zmI (N : Nat) : FSpec where
 X := qL × Nat × qL × Nat × qA × qA
 Y := qL × Nat × qL × Nat × qA × qA
 ad := .mk [.fn0 78, .ptr 0 0, .ptr 1 0, .ptr 2 0, .ptr 3 0] [.cells [.lst 1], .cells [.vs0 4 1], .cells [.lst 25], .cells [.vs0 5 1], .tt, .tt] rfl
 bsh := [[some 1], [none], [some 25], [none], [], []]
 S := ⟨[], [[some 1], [some 2000001], [some 25], [some 2000001], [], []], [], [], [4, 5]⟩
 ret := λ y => ⟨(AV.tup []), [[(AV.list 1 y.1 none)], [(AV.vs 4 0 y.2.1 1)], [(AV.list 25 y.2.2.1 none)], [(AV.vs 5 0 y.2.2.2.1 1)], y.2.2.2.2.1, y.2.2.2.2.2], none, [], [], [4, 5], none⟩
 t := λ x α k => (match zmG N (x.1, (x.1.length : Int), 0, x.1, x.2.1, x.2.2.1, x.2.2.2.1, (x.2.2.2.2.1.map dat0), (x.2.2.2.2.2.map dat0)) with | some y25 => (k (y25.1, y25.2.1, y25.2.2.1, y25.2.2.2.1, (y25.2.2.2.2.1.map dat0), (y25.2.2.2.2.2.map dat0))) | none => none)
abbrev zmF (N : Nat) (x : qL × Nat × qL × Nat × qA × qA) : Option (qL × Nat × qL × Nat × qA × qA) := (zmI N).d x
def zg7 (N : Nat) : List (Nat × LSpec) := [(2, zaK N), (14, Jv N)]
def zfQ : Code := Tryz.f76.body.getD .skip
theorem zcd (N : Nat) : zP qP JT N (zg7 N) 14 (zb 14 zfQ) :=
 zy (zc qP) zf (zmH N) (l := []) an (Jv N)
theorem zjV (N : Nat) : zP qP JT N (zg7 N) 2 (zb 2 zfQ) :=
 zy (zc qP) zf (zmH N) (l := [(14, zb 14 zfQ)]) (al (zcd N) an) (zaK N)
def zx5 (N : Nat) : Ent qP := zG (zc qP) zf (zmH N) 76 Tryz.f76 Tryz.func76 JT N (zg7 N) (l := [(2, zb 2 zfQ), (14, zb 14 zfQ)]) (al (zjV N) (al (zcd N) an)) (zmI N)
def zxd : Nat -> Keep × Keep := anF [] [(100006, ([], [((5, 0), 1)]))]
def zBe (N : Nat) : List (Ent qP) := [zx4 N, zBQ N, zx5 N]
def zs0 (N : Nat) : FSpec where
 X := qL × qL
 Y := qL
 ad := .mk [.ags [.sl 1], .lst 25] [] rfl
 S := ⟨[[some 2000001]], [], [], [], []⟩
 ret := λ y => ⟨(AV.list 1 y (some 2560000000)), [], none, [], [2560000000], [], none⟩
 t := λ x α k => (match zmz N ([[(AV.v (.int .i64 (-1)))]], (x.1.length : Int)) with | some y1 => (if 0 <= (x.2.length : Int) /\ (x.2.length : Int) <= (x.2.length : Int) /\ (x.2.length : Int).toNat * 1 <= zd then (match ztN N (x.1, y1.1, x.2, ((x.2.length : Int).toNat), ((y1.2.map dat0).map dat0), ((List.replicate (x.2.length : Int).toNat (AV.v (.bool false))).map dat0)) with | some y2 => (match zmF N (y2.1, y2.2.1, y2.2.2.1, y2.2.2.2.1, (y2.2.2.2.2.1.map dat0), (y2.2.2.2.2.2.map dat0)) with | some y3 => (if y3.2.1 * 1 <= y3.2.2.2.2.1.length then (k (zp (y3.2.2.2.2.1.take (y3.2.1 * 1)) 1 y3.2.1)) else none) | none => none) | none => none) else none) | none => none)
abbrev zlM (N : Nat) (x : qL × qL) : Option (qL) := (zs0 N).d x
def zxe (N : Nat) : Ent qP := zG (zr qP [12]) zf (zBe N) 40 Tryz.f40 Tryz.func40 zxd N [] (l := []) an (zs0 N)
end
end
section
noncomputable section
open Go.RowKit
set_option maxRecDepth 4000
set_option maxHeartbeats 4000000
def zyk : Nat -> Keep × Keep := anL []
def zBX (N : Nat) : List (Ent qP) := []
def zym (N : Nat) : FSpec where
 X := qL × Int
 Y := Bool
 ad := .mk [.ags [.sl 1], .int .i64] [] rfl
 ret := λ y => qR (AV.v (.bool y))
 t := λ x α k => (match (decide (x.2 >= 0)) with | true => (k (decide (x.2 < (x.1.length : Int)))) | false => (k false))
abbrev zyl (N : Nat) (x : qL × Int) : Option (Bool) := (zym N).d x
def zBW (N : Nat) : Ent qP := zG (zc qP) zf (zBX N) 83 Tryz.f83 Tryz.func83 zyk N [] (l := []) an (zym N)
def zxz : Nat -> Keep × Keep := anL []
def zBt (N : Nat) : List (Ent qP) := []
def zxB (N : Nat) : FSpec where
 X := Int
 Y := Bool
 ad := .mk [.int .i64] [] rfl
 ret := λ y => qR (AV.v (.bool y))
 t := λ x α k => (if 0 <= x /\ x < 7 then (match ((gtab3.map AV.v).drop (x.toNat * 1))[0]? with | some x1 => (match x1 with | .v (.bool b2) => (match b2 with | true => (k true) | false => (k (x == 6))) | _ => none) | none => none) else none)
abbrev zoZ (N : Nat) (x : Int) : Option (Bool) := (zxB N).d x
def zxA (N : Nat) : Ent qP := zG (zc qP) zf (zBt N) 54 Tryz.f54 Tryz.func54 zxz N [] (l := []) an (zxB N)
def JS : Nat -> Keep × Keep := anL [(5, ⟨[2, 3, 11, 12], [], [2, 3], [(10, 1)], [((2, 0), 1)], [], [((3, 0), 1)], [], false, some 2012288, []⟩, ⟨[2, 3], [], [2, 3], [], [((2, 0), 1)], [], [((3, 0), 1)], [], false, some 2012288, []⟩), (16, ⟨[2, 3, 11, 12, 18, 19], [(6, 29)], [2, 3], [(10, 1), (17, 29)], [((2, 0), 1)], [], [((3, 0), 1)], [], false, some 2012288, []⟩, ⟨[2, 3, 11, 12], [(6, 29)], [2, 3], [(10, 1)], [((2, 0), 1)], [], [((3, 0), 1)], [], false, some 2012288, []⟩)]
def zl9 (N : Nat) : List (Ent qP) := [zo0 N]
def Zm (N : Nat) : LSpec where
 X := qL × qL × qL × Int × Int × Int × Int × qL × Nat × qA × Nat × Nat
 Y := (qL × qL × Int × Int × qL × Nat × qA × Nat × Nat)
 dt := .fm 41 0 (JS 16).1.toks 2012288 [(6, .tok 29 1280000384), (10, .lst 1), (17, .lst 29), (2, .ptr 2 0), (3, .ptr 3 0), (11, .int .i64), (12, .int .i64), (18, .int .i64), (19, .int .i64)] [(2, .cells [.tok 1 6400524288]), (3, .cells [.vs0 2012288 1]), (2012288, .tt)] rfl
 od := .mk 41 0 (JS 16).2.toks [⟨.exit 2, [(6, .tok 29 1280000384), (10, .lst 1), (2, .ptr 2 0), (3, .ptr 3 0), (11, .int .i64), (12, .int .i64)], [(2, .cells [.tok 1 6400524288]), (3, .cells [.vs0 2012288 1]), (2012288, .tt)], some 2012288⟩] rfl
 b := λ u16 α kn ke => (match (decide (u16.2.2.2.2.2.2.1 < u16.2.2.2.2.2.1)) with | true => (if 0 <= u16.2.2.2.2.2.2.1 then (match u16.2.2.1[u16.2.2.2.2.2.2.1.toNat]? with | some c6 => (match zfw c6 with | some e7 => (match zb6 N (zm e7) with | some y8 => (if (u16.1.length + [(zo (e7.1, e7.2.1, e7.2.2.1, e7.2.2.2.1, y8))].length) * 288 <= zd then (kn ((u16.1 ++ [(zo (e7.1, e7.2.1, e7.2.2.1, e7.2.2.2.1, y8))]), u16.2.1, u16.2.2.1, u16.2.2.2.1, u16.2.2.2.2.1, u16.2.2.2.2.2.1, (i64 (u16.2.2.2.2.2.2.1 + 1)), u16.2.2.2.2.2.2.2.1, u16.2.2.2.2.2.2.2.2.1, (u16.2.2.2.2.2.2.2.2.2.1.map datF), u16.2.2.2.2.2.2.2.2.2.2)) else none) | none => none) | none => none) | none => none) else none) | false => (ke (u16.1, u16.2.1, u16.2.2.2.1, u16.2.2.2.2.1, u16.2.2.2.2.2.2.2.1, u16.2.2.2.2.2.2.2.2.1, (u16.2.2.2.2.2.2.2.2.2.1.map datF), u16.2.2.2.2.2.2.2.2.2.2)))
abbrev zih (N : Nat) (x : qL × qL × qL × Int × Int × Int × Int × qL × Nat × qA × Nat × Nat) : Option ((qL × qL × Int × Int × qL × Nat × qA × Nat × Nat)) := (Zm N).L N x
def ZS (N : Nat) : LSpec where
 X := qL × Int × Int × qL × Nat × qA × Nat × Nat
 Y := (qL × Nat × qA × Nat × Nat)
 dt := .fm 41 0 (JS 5).1.toks 2012288 [(10, .lst 1), (2, .ptr 2 0), (3, .ptr 3 0), (11, .int .i64), (12, .int .i64)] [(2, .cells [.tok 1 6400524288]), (3, .cells [.vs0 2012288 1]), (2012288, .tt)] rfl
 od := .mk 41 0 (JS 5).2.toks [⟨.exit 0, [(2, .ptr 2 0), (3, .ptr 3 0)], [(2, .cells [.tok 1 6400524288]), (3, .cells [.vs0 2012288 1]), (2012288, .tt)], some 2012288⟩] rfl
 b := λ u5 α kn ke => (match (decide (u5.2.2.1 < u5.2.1)) with | true => (if 0 <= u5.2.2.1 then (match u5.1[u5.2.2.1.toNat]? with | some c10 => (match zbr c10 with | some e11 => (match zih N (([] : qL), u5.1, e11.1, u5.2.1, u5.2.2.1, (e11.1.length : Int), 0, u5.2.2.2.1, u5.2.2.2.2.1, (u5.2.2.2.2.2.1.map datF), u5.2.2.2.2.2.2) with | some y12 => (if (y12.2.2.2.2.2.2.2.2 = y12.2.2.2.2.2.1 /\ y12.2.2.2.2.2.2.2.1 <= y12.2.2.2.2.2.2.2.2) /\ y12.2.2.2.2.2.1 * 1 <= y12.2.2.2.2.2.2.1.length /\ (y12.2.2.2.2.2.1 + 1) * 24 <= zd then (kn (y12.2.1, y12.2.2.1, (i64 (y12.2.2.2.1 + 1)), y12.2.2.2.2.1, (y12.2.2.2.2.2.1 + 1), ((y12.2.2.2.2.2.2.1.take (y12.2.2.2.2.2.1 * 1) ++ [AV.list 29 y12.1 (some (TOB + y12.2.2.2.2.2.2.2.2))]).map datF), y12.2.2.2.2.2.2.2.1, (y12.2.2.2.2.2.2.2.2 + 1))) else none) | none => none) | none => none) | none => none) else none) | false => (ke (u5.2.2.2.1, u5.2.2.2.2.1, (u5.2.2.2.2.2.1.map datF), u5.2.2.2.2.2.2)))
abbrev zl8 (N : Nat) (x : qL × Int × Int × qL × Nat × qA × Nat × Nat) : Option ((qL × Nat × qA × Nat × Nat)) := (ZS N).L N x
def zma (N : Nat) : FSpec where
 X := qL
 Y := Nat × qA × Nat × Nat
 ad := .mk [.ags [.sl 1]] [] rfl
 S := ⟨[[some 1]], [], [], [], []⟩
 bm := true
 ret := λ y => ⟨(AV.agg [(AV.vs 0 0 y.1 1)]), [], some y.2.1, [], [], [], some (y.2.2.1, y.2.2.2)⟩
 t := λ x α k => (match zl8 N (x, (x.length : Int), 0, ([] : qL), 0, ([] : List AV), 0, 0) with | some y13 => (k (y13.2.1, (y13.2.2.1.map datF), y13.2.2.2)) | none => none)
abbrev zig (N : Nat) (x : qL) : Option (Nat × qA × Nat × Nat) := (zma N).d x
def zg3 (N : Nat) : List (Nat × LSpec) := [(5, ZS N), (16, Zm N)]
def zfN : Code := Tryz.f52.body.getD .skip
theorem zb5 (N : Nat) : zP qP JS N (zg3 N) 16 (zb 16 zfN) :=
 zy (zr qP [36, 37]) zf (zl9 N) (l := []) an (Zm N)
theorem zjQ (N : Nat) : zP qP JS N (zg3 N) 5 (zb 5 zfN) :=
 zy (zr qP [36, 37]) zf (zl9 N) (l := [(16, zb 16 zfN)]) (al (zb5 N) an) (ZS N)
def zrn (N : Nat) : Ent qP := zG (zr qP [36, 37]) zf (zl9 N) 52 Tryz.f52 Tryz.func52 JS N (zg3 N) (l := [(5, zb 5 zfN), (16, zb 16 zfN)]) (al (zjQ N) (al (zb5 N) an)) (zma N)
def jr : Nat -> Keep × Keep := anF [(2, ⟨[1, 3, 5, 6], [], [3, 5, 6], [], [((6, 0), 1)], [], [], [], true, none, []⟩, ⟨[1, 3, 5, 6, 7], [], [3, 5, 6], [], [((6, 0), 1)], [], [], [], false, none, []⟩), (6, ⟨[1, 3, 5, 6], [], [3, 5, 6], [], [((6, 0), 1)], [], [], [], true, none, []⟩, ⟨[1, 3, 5, 6, 7], [], [3, 5, 6], [], [((6, 0), 1)], [], [], [], false, none, []⟩), (18, ⟨[1, 3, 5, 6, 9], [], [3, 5, 6, 9], [], [((6, 0), 1)], [], [], [], true, none, []⟩, ⟨[1, 3, 5, 6, 9, 63], [], [3, 5, 6, 9], [], [((6, 0), 1)], [], [], [], false, none, []⟩), (27, ⟨[1, 3, 5, 6, 9, 95], [], [3, 5, 6, 9], [], [((6, 0), 1)], [], [], [], true, none, []⟩, ⟨[1, 3, 5, 6], [], [3, 5, 6], [], [((6, 0), 1)], [], [], [], false, none, []⟩)] [(100019, ([], [((10, 0), 1)]))]
def zlX (N : Nat) : List (Ent qP) := [zlq N, zyg N, zyj N, zBW N, zxw N, zmb N, zxA N, zo0 N, zrn N]
def zg0 (N : Nat) : LSpec where
 X := Int × Bool × qL × RT7 × qL × RT7
 Y := (Int × qL × RT7 × qL)
 dt := .mk 120 0 (jr 27).1.toks [(1, .int .i64), (3, .ptr 3 0), (5, .ptr 5 0), (6, .ptr 6 0), (9, .ptr 9 0), (95, .bool)] [(3, .cells [.lst 1]), (5, .row RK7), (6, .cells [.tok 1 6401572864]), (9, .row RK7)] rfl
 od := .mk 120 0 (jr 27).2.toks [⟨.normal, [(1, .int .i64), (3, .ptr 3 0), (5, .ptr 5 0), (6, .ptr 6 0)], [(3, .cells [.lst 1]), (5, .row RK7), (6, .cells [.tok 1 6401572864])], none⟩] rfl
 b := λ u27 α kn ke => (match u27.2.1 with | true => (ke (u27.1, u27.2.2.1, (u27.2.2.2.1.1, u27.2.2.2.1.2.1, u27.2.2.2.1.2.2.1, u27.2.2.2.1.2.2.2.1, u27.2.2.2.2.2.2.2.2.2), u27.2.2.2.2.1)) | false => (ke (u27.1, u27.2.2.1, u27.2.2.2.1, u27.2.2.2.2.1)))
abbrev ztb (N : Nat) (x : Int × Bool × qL × RT7 × qL × RT7) : Option ((Int × qL × RT7 × qL)) := (zg0 N).L N x
def zgZ (N : Nat) : LSpec where
 X := Int × qL × RT7 × qL × RT7
 Y := (Int × Bool × qL × RT7 × qL × RT7)
 dt := .mk 120 0 (jr 18).1.toks [(1, .int .i64), (3, .ptr 3 0), (5, .ptr 5 0), (6, .ptr 6 0), (9, .ptr 9 0)] [(3, .cells [.lst 1]), (5, .row RK7), (6, .cells [.tok 1 6401572864]), (9, .row RK7)] rfl
 od := .mk 120 0 (jr 18).2.toks [⟨.normal, [(1, .int .i64), (3, .ptr 3 0), (5, .ptr 5 0), (6, .ptr 6 0), (9, .ptr 9 0), (63, .bool)], [(3, .cells [.lst 1]), (5, .row RK7), (6, .cells [.tok 1 6401572864]), (9, .row RK7)], none⟩] rfl
 b := λ u18 α kn ke => (match (u18.2.2.1.1 == 5) with | true => (match (u18.2.2.1.2.2.2.1 == u18.1) with | true => (ke (u18.1, true, u18.2)) | false => (match (u18.2.2.1.1 == 6) with | true => (match zoZ N u18.2.2.2.2.1 with | some y30 => (ke (u18.1, y30, u18.2)) | none => none) | false => (ke (u18.1, false, u18.2)))) | false => (match (u18.2.2.1.1 == 6) with | true => (match zoZ N u18.2.2.2.2.1 with | some y31 => (ke (u18.1, y31, u18.2)) | none => none) | false => (ke (u18.1, false, u18.2))))
abbrev zta (N : Nat) (x : Int × qL × RT7 × qL × RT7) : Option ((Int × Bool × qL × RT7 × qL × RT7)) := (zgZ N).L N x
def zlZ (N : Nat) : LSpec where
 X := Int × qL × RT7 × qL
 Y := (Int × Int × qL × RT7 × qL) ⊕ (Int × qL × RT7 × qL)
 dt := .mk 120 0 (jr 6).1.toks [(1, .int .i64), (3, .ptr 3 0), (5, .ptr 5 0), (6, .ptr 6 0)] [(3, .cells [.lst 1]), (5, .row RK7), (6, .cells [.tok 1 6401572864])] rfl
 od := .mk 120 0 (jr 6).2.toks [⟨.ret, [(1, .int .i64), (3, .ptr 3 0), (5, .ptr 5 0), (6, .ptr 6 0), (7, .int .i64)], [(3, .cells [.lst 1]), (5, .row RK7), (6, .cells [.tok 1 6401572864])], none⟩, ⟨.normal, [(1, .int .i64), (3, .ptr 3 0), (5, .ptr 5 0), (6, .ptr 6 0)], [(3, .cells [.lst 1]), (5, .row RK7), (6, .cells [.tok 1 6401572864])], none⟩] rfl
 b := λ u6 α kn ke => (match zyl N (u6.2.1, u6.1) with | some y17 => (match (!y17) with | true => (ke (.inl (u6.1, 6, u6.2.1, u6.2.2.1, ([] : qL)))) | false => (match (u6.2.2.1.1 == 5) with | true => (match zyl N (u6.2.1, u6.2.2.1.2.2.2.1) with | some y18 => (match (!y18) with | true => (ke (.inl (u6.1, 6, u6.2.1, u6.2.2.1, ([] : qL)))) | false => (ke (.inr u6))) | none => none) | false => (ke (.inr u6)))) | none => none)
abbrev zxr (N : Nat) (x : Int × qL × RT7 × qL) : Option ((Int × Int × qL × RT7 × qL) ⊕ (Int × qL × RT7 × qL)) := (zlZ N).L N x
def zlY (N : Nat) : LSpec where
 X := Int × qL × RT7 × qL
 Y := (Int × Int × qL × RT7 × qL) ⊕ (Int × qL × RT7 × qL)
 dt := .mk 120 0 (jr 2).1.toks [(1, .int .i64), (3, .ptr 3 0), (5, .ptr 5 0), (6, .ptr 6 0)] [(3, .cells [.lst 1]), (5, .row RK7), (6, .cells [.tok 1 6401572864])] rfl
 od := .mk 120 0 (jr 2).2.toks [⟨.ret, [(1, .int .i64), (3, .ptr 3 0), (5, .ptr 5 0), (6, .ptr 6 0), (7, .int .i64)], [(3, .cells [.lst 1]), (5, .row RK7), (6, .cells [.tok 1 6401572864])], none⟩, ⟨.normal, [(1, .int .i64), (3, .ptr 3 0), (5, .ptr 5 0), (6, .ptr 6 0)], [(3, .cells [.lst 1]), (5, .row RK7), (6, .cells [.tok 1 6401572864])], none⟩] rfl
 b := λ u2 α kn ke => (match zgP N u2.2.1 with | some y7 => (match (!y7) with | true => (ke (.inl (u2.1, 1, u2.2.1, u2.2.2.1, ([] : qL)))) | false => (match zmQ N u2.2.2.1.2.2.1 with | some y8 => (match (!y8) with | true => (ke (.inl (u2.1, 1, u2.2.1, u2.2.2.1, ([] : qL)))) | false => (match (u2.2.2.1.1 == 3) with | true => (match zfR N (zm u2.2.2.1) with | some y9 => (match (!y9) with | true => (ke (.inl (u2.1, 1, u2.2.1, u2.2.2.1, ([] : qL)))) | false => (ke (.inr u2))) | none => none) | false => (ke (.inr u2)))) | none => none)) | none => none)
abbrev zxq (N : Nat) (x : Int × qL × RT7 × qL) : Option ((Int × Int × qL × RT7 × qL) ⊕ (Int × qL × RT7 × qL)) := (zlY N).L N x
def zxs (N : Nat) : FSpec where
 X := qL × Int × RT7
 Y := qL × Int
 ad := .mk [.ags [.sl 1], .int .i64, .agg RK7] [] rfl
 S := ⟨[[some 1], [none]], [], [], [], []⟩
 ret := λ y => qR (AV.tup [(AV.agg [(AV.list 1 y.1 none)]), (AV.v (.int .i64 y.2))])
 t := λ x α k => (match zxq N (x.2.1, x.1, x.2.2, ([] : qL)) with | some y10 => (match y10 with | .inl z11 => (k (z11.2.2.2.2, z11.2.1)) | .inr z12 => (match zxr N z12 with | some y19 => (match y19 with | .inl z20 => (k (z20.2.2.2.2, z20.2.1)) | .inr z21 => (match zjP N (z21.2.1, z21.2.2.1.2.1) with | some y22 => (match (y22 != 0) with | true => (k (([] : qL), y22)) | false => (if 0 <= z21.1 then (match z21.2.1[z21.1.toNat]? with | some c23 => (match zbr c23 with | some e24 => (match zjR N e24.1 with | some y25 => (match zta N (z21.1, z21.2.1, z21.2.2.1, z21.2.2.2, y25) with | some y32 => (match y32.2.1 with | true => (k (([] : qL), 10)) | false => (if 0 <= y32.1 then (match y32.2.2.1[y32.1.toNat]? with | some c33 => (match (c33.drop 0)[0]? with | some x34 => (match Zf 29 x34 with | some l35 => (match ((l35.length : Int) == 100) with | true => (k (([] : qL), 8)) | false => (if 0 <= y32.2.2.2.1.1 /\ y32.2.2.2.1.1 < 7 then (match ((gtab2.map AV.v).drop (y32.2.2.2.1.1.toNat * 1))[0]? with | some x36 => (match x36 with | .v (.bool b37) => (match ztb N (y32.1, b37, y32.2.2) with | some y38 => (match zb6 N (zm y38.2.2.1) with | some y39 => (match zig N y38.2.1 with | some y40 => (if 0 <= y38.1 /\ y38.1 < (y40.1 : Int) then (match (y40.2.1.map (datJ y40.2.2.1 y40.2.2.2))[(((0 + y38.1.toNat) * 1) + 0)]? with | some c41 => (match c41 with | .list n42 l43 (some q44) => (if n42 = 29 /\ q44 = TOB + (((0 + y38.1.toNat) * 1) + 0) /\ y40.2.2.1 <= (((0 + y38.1.toNat) * 1) + 0) /\ (((0 + y38.1.toNat) * 1) + 0) < y40.2.2.2 then (if (l43.length + [(zo (y38.2.2.1.1, y38.2.2.1.2.1, y38.2.2.1.2.2.1, y38.2.2.1.2.2.2.1, y39))].length) * 288 <= zd then (if 0 <= y38.1 /\ y38.1 < (y40.1 : Int) then (if (((0 + y38.1.toNat) * 1) + 0) + 1 <= (y40.2.1.map (datJ y40.2.2.1 y40.2.2.2)).length then (if y40.1 * 1 <= (splice (y40.2.1.map (datJ y40.2.2.1 y40.2.2.2)) (((0 + y38.1.toNat) * 1) + 0) [(AV.list 29 (l43 ++ [(zo (y38.2.2.1.1, y38.2.2.1.2.1, y38.2.2.1.2.2.1, y38.2.2.1.2.2.2.1, y39))]) (some 7424))]).length then (k ((zp ((splice (y40.2.1.map (datJ y40.2.2.1 y40.2.2.2)) (((0 + y38.1.toNat) * 1) + 0) [(AV.list 29 (l43 ++ [(zo (y38.2.2.1.1, y38.2.2.1.2.1, y38.2.2.1.2.2.1, y38.2.2.1.2.2.2.1, y39))]) (some 7424))]).take (y40.1 * 1)) 1 y40.1), 0)) else none) else none) else none) else none) else none) | _ => none) | none => none) else none) | none => none) | none => none) | none => none) | _ => none) | none => none) else none)) | none => none) | none => none) | none => none) else none)) | none => none) | none => none) | none => none) | none => none) else none)) | none => none)) | none => none)) | none => none)
abbrev zBo (N : Nat) (x : qL × Int × RT7) : Option (qL × Int) := (zxs N).d x
def zfM (N : Nat) : List (Nat × LSpec) := [(2, zlY N), (6, zlZ N), (18, zgZ N), (27, zg0 N)]
def zfL : Code := Tryz.f47.body.getD .skip
theorem zjM (N : Nat) : zP qP jr N (zfM N) 27 (zb 27 zfL) :=
 Jn (zr qP [104, 113]) zf (zlX N) (l := []) an (zg0 N)
theorem zjL (N : Nat) : zP qP jr N (zfM N) 18 (zb 18 zfL) :=
 Jn (zr qP [104, 113]) zf (zlX N) (l := []) an (zgZ N)
theorem zl1 (N : Nat) : zP qP jr N (zfM N) 6 (zb 6 zfL) :=
 Jn (zr qP [104, 113]) zf (zlX N) (l := []) an (zlZ N)
theorem zl0 (N : Nat) : zP qP jr N (zfM N) 2 (zb 2 zfL) :=
 Jn (zr qP [104, 113]) zf (zlX N) (l := []) an (zlY N)
def zBp (N : Nat) : Ent qP := zG (zr qP [104, 113]) zf (zlX N) 47 Tryz.f47 Tryz.func47 jr N (zfM N) (l := [(2, zb 2 zfL), (6, zb 6 zfL), (18, zb 18 zfL), (27, zb 27 zfL)]) (al (zl0 N) (al (zl1 N) (al (zjL N) (al (zjM N) an)))) (zxs N)
def ZW : Nat -> Keep × Keep := anF [(16, ⟨[2, 6, 10, 12, 43, 44], [(11, 1)], [6, 10, 36, 39], [(1, 25), (42, 1)], [((6, 0), 1)], [], [], [36, 39], false, some 36, []⟩, ⟨[2, 6, 8, 10, 12], [(11, 1)], [6, 10, 36, 39], [(1, 25), (7, 1)], [((6, 0), 1)], [], [], [36, 39], false, some 36, []⟩), (27, ⟨[2, 6, 10, 12, 13, 14, 15, 16, 43, 44, 58], [(11, 1)], [6, 10, 16, 36, 39], [(1, 25), (42, 1)], [((6, 0), 1)], [], [], [36, 39], true, some 36, []⟩, ⟨[2, 6, 10, 12, 13, 14, 15, 16, 43, 44], [(11, 1)], [6, 10, 16, 36, 39], [(1, 25), (42, 1)], [((6, 0), 1)], [], [], [36, 39], false, some 36, []⟩), (33, ⟨[2, 6, 10, 12, 13, 14, 15, 16, 43, 44, 81], [(11, 1)], [6, 10, 16, 36, 39], [(1, 25), (42, 1)], [((6, 0), 1)], [], [], [36, 39], true, some 36, []⟩, ⟨[2, 6, 10, 12, 13, 15, 43, 44], [(11, 1)], [6, 10, 36, 39], [(1, 25), (42, 1)], [((6, 0), 1)], [], [], [36, 39], false, some 36, []⟩), (35, ⟨[2, 6, 10, 12, 13, 14, 15, 16, 43, 44], [(11, 1)], [6, 10, 16, 36, 39], [(1, 25), (42, 1)], [((6, 0), 1)], [], [], [36, 39], true, some 36, []⟩, ⟨[2, 6, 10, 12, 13, 14, 15, 43, 44], [(11, 1)], [6, 10, 36, 39], [(1, 25), (42, 1)], [((6, 0), 1)], [], [], [36, 39], false, some 36, []⟩), (46, ⟨[2, 6, 10, 12, 130, 131], [(11, 1)], [6, 10, 39], [(129, 25)], [((6, 0), 1)], [], [((10, 0), 1)], [39], false, none, []⟩, ⟨[6, 10], [(11, 1)], [6, 10], [], [((6, 0), 1)], [], [((10, 0), 1)], [], false, none, []⟩)] [(100035, ([], [((10, 0), 1)]))]
def zjA (N : Nat) : List (Ent qP) := [zlq N, zxu N, zxw N, zrn N, zxe N, zmb N, zxA N, zti N, zo0 N]
def zay (N : Nat) : LSpec where
 X := qL × qL × Int × Nat × Int × Int × qL × Nat × qA × qA
 Y := (qL × qL × Nat × qA)
 dt := .mk 166 0 (ZW 46).1.toks [(11, .tok 1 1280000704), (129, .lst 25), (2, .int .i64), (6, .ptr 6 0), (10, .ptr 10 0), (12, .vs0 39 1), (130, .int .i64), (131, .int .i64)] [(6, .cells [.tok 1 6401572864]), (10, .cells [.vs0 2040960 1]), (39, .tt), (2040960, .tt)] rfl
 od := .mk 166 0 (ZW 46).2.toks [⟨.exit 3, [(11, .tok 1 1280000704), (6, .ptr 6 0), (10, .ptr 10 0)], [(6, .cells [.tok 1 6401572864]), (10, .cells [.vs0 2040960 1]), (2040960, .tt)], none⟩] rfl
 b := λ u46 α kn ke => (match (decide (u46.2.2.2.2.2.1 < u46.2.2.2.2.1)) with | true => (if 0 <= u46.2.2.2.2.2.1 then (match u46.2.1[u46.2.2.2.2.2.1.toNat]? with | some c100 => (match zeE c100 with | some e101 => (if 0 <= u46.2.2.2.2.2.1 /\ u46.2.2.2.2.2.1 < (u46.2.2.2.1 : Int) then (match u46.2.2.2.2.2.2.2.2.1[((0 + u46.2.2.2.2.2.1.toNat) * 1)]? with | some x102 => (match x102 with | .v (.bool b103) => (match (!b103) with | true => (if (u46.1.length + [[(AV.v (.int .i64 ((u46.2.2.2.2.2.2.2.1 : Nat) : Int)))]].length) * 8 <= zd then (match zb6 N e101 with | some y104 => (if u46.2.2.2.2.2.2.2.1 * 1 <= u46.2.2.2.2.2.2.2.2.2.length /\ (u46.2.2.2.2.2.2.2.1 + [[(AV.list 29 [(zo (1, u46.2.2.1, (⟨#[]⟩ : ByteArray), 0, y104))] none)]].length) * 24 <= zd then (kn ((u46.1 ++ [[(AV.v (.int .i64 ((u46.2.2.2.2.2.2.2.1 : Nat) : Int)))]]), u46.2.1, u46.2.2.1, u46.2.2.2.1, u46.2.2.2.2.1, (i64 (u46.2.2.2.2.2.1 + 1)), u46.2.2.2.2.2.2.1, (u46.2.2.2.2.2.2.2.1 + [[(AV.list 29 [(zo (1, u46.2.2.1, (⟨#[]⟩ : ByteArray), 0, y104))] none)]].length), (u46.2.2.2.2.2.2.2.2.1.map dat0), ((u46.2.2.2.2.2.2.2.2.2.take (u46.2.2.2.2.2.2.2.1 * 1) ++ [[(AV.list 29 [(zo (1, u46.2.2.1, (⟨#[]⟩ : ByteArray), 0, y104))] none)]].flatten).map dat0))) else none) | none => none) else none) | false => (kn (u46.1, u46.2.1, u46.2.2.1, u46.2.2.2.1, u46.2.2.2.2.1, (i64 (u46.2.2.2.2.2.1 + 1)), u46.2.2.2.2.2.2.1, u46.2.2.2.2.2.2.2.1, (u46.2.2.2.2.2.2.2.2.1.map dat0), (u46.2.2.2.2.2.2.2.2.2.map dat0)))) | _ => none) | none => none) else none) | none => none) | none => none) else none) | false => (ke (u46.1, u46.2.2.2.2.2.2.1, u46.2.2.2.2.2.2.2.1, (u46.2.2.2.2.2.2.2.2.2.map dat0))))
abbrev zgN (N : Nat) (x : qL × qL × Int × Nat × Int × Int × qL × Nat × qA × qA) : Option ((qL × qL × Nat × qA)) := (zay N).L N x
def j4 (N : Nat) : LSpec where
 X := qL × qL × qL × Int × Nat × Int × Int × Nat × Int × Int × qL × Nat × RT7 × qA × qA × Nat × Nat
 Y := (qL × qL × qL × Int × Nat × Int × Int × Nat × Int × Int × qL × Nat × qA × qA × Nat × Nat) ⊕ (qL × qL × qL × Int × Nat × Int × Int × Nat × Int × Int × qL × Nat × qA × qA × Nat × Nat)
 dt := .fm 166 0 (ZW 35).1.toks 36 [(11, .tok 1 1280000704), (1, .lst 25), (42, .lst 1), (2, .int .i64), (6, .ptr 6 0), (10, .ptr 10 0), (12, .vs0 39 1), (13, .int .i64), (14, .int .i64), (15, .ptrV 36), (16, .ptr 16 0), (43, .int .i64), (44, .int .i64)] [(6, .cells [.tok 1 6401572864]), (10, .cells [.vs0 36 1]), (16, .row RK7), (36, .tt), (39, .tt)] rfl
 od := .mk 166 0 (ZW 35).2.toks [⟨.exit 1, [(11, .tok 1 1280000704), (1, .lst 25), (42, .lst 1), (2, .int .i64), (6, .ptr 6 0), (10, .ptr 10 0), (12, .vs0 39 1), (13, .int .i64), (14, .int .i64), (15, .ptrV 36), (43, .int .i64), (44, .int .i64)], [(6, .cells [.tok 1 6401572864]), (10, .cells [.vs0 36 1]), (36, .tt), (39, .tt)], some 36⟩, ⟨.normal, [(11, .tok 1 1280000704), (1, .lst 25), (42, .lst 1), (2, .int .i64), (6, .ptr 6 0), (10, .ptr 10 0), (12, .vs0 39 1), (13, .int .i64), (14, .int .i64), (15, .ptrV 36), (43, .int .i64), (44, .int .i64)], [(6, .cells [.tok 1 6401572864]), (10, .cells [.vs0 36 1]), (36, .tt), (39, .tt)], some 36⟩] rfl
 b := λ u35 α kn ke => (if 0 <= u35.2.2.2.2.2.2.2.2.2.2.2.2.1.1 /\ u35.2.2.2.2.2.2.2.2.2.2.2.2.1.1 < 7 then (match ((gtab0.map AV.v).drop (u35.2.2.2.2.2.2.2.2.2.2.2.2.1.1.toNat * 1))[0]? with | some x24 => (match x24 with | .v (.bool b25) => (match b25 with | true => (if 0 <= u35.2.2.2.2.2.2.1 then (match u35.2.1[u35.2.2.2.2.2.2.1.toNat]? with | some c26 => (match zeE c26 with | some e27 => (match zfO N ((zm u35.2.2.2.2.2.2.2.2.2.2.2.2.1), e27) with | some y28 => (match y28 with | true => (ke (.inl (u35.1, u35.2.1, u35.2.2.1, u35.2.2.2.1, u35.2.2.2.2.1, u35.2.2.2.2.2.1, u35.2.2.2.2.2.2.1, u35.2.2.2.2.2.2.2.1, u35.2.2.2.2.2.2.2.2.1, u35.2.2.2.2.2.2.2.2.2.1, u35.2.2.2.2.2.2.2.2.2.2.1, u35.2.2.2.2.2.2.2.2.2.2.2.1, (u35.2.2.2.2.2.2.2.2.2.2.2.2.2.1.map datF), (u35.2.2.2.2.2.2.2.2.2.2.2.2.2.2.1.map dat0), u35.2.2.2.2.2.2.2.2.2.2.2.2.2.2.2))) | false => (ke (.inr (u35.1, u35.2.1, u35.2.2.1, u35.2.2.2.1, u35.2.2.2.2.1, u35.2.2.2.2.2.1, u35.2.2.2.2.2.2.1, u35.2.2.2.2.2.2.2.1, u35.2.2.2.2.2.2.2.2.1, u35.2.2.2.2.2.2.2.2.2.1, u35.2.2.2.2.2.2.2.2.2.2.1, u35.2.2.2.2.2.2.2.2.2.2.2.1, (u35.2.2.2.2.2.2.2.2.2.2.2.2.2.1.map datF), (u35.2.2.2.2.2.2.2.2.2.2.2.2.2.2.1.map dat0), u35.2.2.2.2.2.2.2.2.2.2.2.2.2.2.2)))) | none => none) | none => none) | none => none) else none) | false => (ke (.inr (u35.1, u35.2.1, u35.2.2.1, u35.2.2.2.1, u35.2.2.2.2.1, u35.2.2.2.2.2.1, u35.2.2.2.2.2.2.1, u35.2.2.2.2.2.2.2.1, u35.2.2.2.2.2.2.2.2.1, u35.2.2.2.2.2.2.2.2.2.1, u35.2.2.2.2.2.2.2.2.2.2.1, u35.2.2.2.2.2.2.2.2.2.2.2.1, (u35.2.2.2.2.2.2.2.2.2.2.2.2.2.1.map datF), (u35.2.2.2.2.2.2.2.2.2.2.2.2.2.2.1.map dat0), u35.2.2.2.2.2.2.2.2.2.2.2.2.2.2.2)))) | _ => none) | none => none) else none)
abbrev zev (N : Nat) (x : qL × qL × qL × Int × Nat × Int × Int × Nat × Int × Int × qL × Nat × RT7 × qA × qA × Nat × Nat) : Option ((qL × qL × qL × Int × Nat × Int × Int × Nat × Int × Int × qL × Nat × qA × qA × Nat × Nat) ⊕ (qL × qL × qL × Int × Nat × Int × Int × Nat × Int × Int × qL × Nat × qA × qA × Nat × Nat)) := (j4 N).L N x
def jF (N : Nat) : LSpec where
 X := qL × qL × qL × Int × Nat × Int × Int × Nat × Int × Int × Bool × qL × Nat × RT7 × qA × qA × Nat × Nat
 Y := (qL × qL × qL × Int × Nat × Int × Nat × Int × Int × qL × Nat × qA × qA × Nat × Nat) ⊕ (qL × qL × qL × Int × Nat × Int × Nat × Int × Int × qL × Nat × qA × qA × Nat × Nat)
 dt := .fm 166 0 (ZW 33).1.toks 36 [(11, .tok 1 1280000704), (1, .lst 25), (42, .lst 1), (2, .int .i64), (6, .ptr 6 0), (10, .ptr 10 0), (12, .vs0 39 1), (13, .int .i64), (14, .int .i64), (15, .ptrV 36), (16, .ptr 16 0), (43, .int .i64), (44, .int .i64), (81, .bool)] [(6, .cells [.tok 1 6401572864]), (10, .cells [.vs0 36 1]), (16, .row RK7), (36, .tt), (39, .tt)] rfl
 od := .mk 166 0 (ZW 33).2.toks [⟨.exit 1, [(11, .tok 1 1280000704), (1, .lst 25), (42, .lst 1), (2, .int .i64), (6, .ptr 6 0), (10, .ptr 10 0), (12, .vs0 39 1), (13, .int .i64), (15, .ptrV 36), (43, .int .i64), (44, .int .i64)], [(6, .cells [.tok 1 6401572864]), (10, .cells [.vs0 36 1]), (36, .tt), (39, .tt)], some 36⟩, ⟨.normal, [(11, .tok 1 1280000704), (1, .lst 25), (42, .lst 1), (2, .int .i64), (6, .ptr 6 0), (10, .ptr 10 0), (12, .vs0 39 1), (13, .int .i64), (15, .ptrV 36), (43, .int .i64), (44, .int .i64)], [(6, .cells [.tok 1 6401572864]), (10, .cells [.vs0 36 1]), (36, .tt), (39, .tt)], some 36⟩] rfl
 b := λ u33 α kn ke => (match u33.2.2.2.2.2.2.2.2.2.2.1 with | true => (match zev N (u33.1, u33.2.1, u33.2.2.1, u33.2.2.2.1, u33.2.2.2.2.1, u33.2.2.2.2.2.1, u33.2.2.2.2.2.2.1, u33.2.2.2.2.2.2.2.1, u33.2.2.2.2.2.2.2.2.1, u33.2.2.2.2.2.2.2.2.2.1, u33.2.2.2.2.2.2.2.2.2.2.2.1, u33.2.2.2.2.2.2.2.2.2.2.2.2.1, u33.2.2.2.2.2.2.2.2.2.2.2.2.2.1, (u33.2.2.2.2.2.2.2.2.2.2.2.2.2.2.1.map datF), (u33.2.2.2.2.2.2.2.2.2.2.2.2.2.2.2.1.map dat0), u33.2.2.2.2.2.2.2.2.2.2.2.2.2.2.2.2) with | some y59 => (match y59 with | .inl z60 => (ke (.inl (z60.1, z60.2.1, z60.2.2.1, z60.2.2.2.1, z60.2.2.2.2.1, z60.2.2.2.2.2.1, z60.2.2.2.2.2.2.2.1, z60.2.2.2.2.2.2.2.2.1, z60.2.2.2.2.2.2.2.2.2.1, z60.2.2.2.2.2.2.2.2.2.2.1, z60.2.2.2.2.2.2.2.2.2.2.2.1, (z60.2.2.2.2.2.2.2.2.2.2.2.2.1.map datF), (z60.2.2.2.2.2.2.2.2.2.2.2.2.2.1.map dat0), z60.2.2.2.2.2.2.2.2.2.2.2.2.2.2))) | .inr z61 => (match z61.2.2.2.2.2.2.2.2.2.2.2.2.1[(z61.2.2.2.2.2.2.2.1 + 0)]? with | some c62 => (match c62 with | .list n63 l64 (some q65) => (if n63 = 29 /\ q65 = TOB + (z61.2.2.2.2.2.2.2.1 + 0) /\ z61.2.2.2.2.2.2.2.2.2.2.2.2.2.2.1 <= (z61.2.2.2.2.2.2.2.1 + 0) /\ (z61.2.2.2.2.2.2.2.1 + 0) < z61.2.2.2.2.2.2.2.2.2.2.2.2.2.2.2 then (if 0 <= z61.2.2.2.2.2.2.1 then (match z61.2.1[z61.2.2.2.2.2.2.1.toNat]? with | some c66 => (match zeE c66 with | some e67 => (match zb6 N e67 with | some y68 => (if (l64.length + [(zo (1, z61.2.2.2.1, (⟨#[]⟩ : ByteArray), 0, y68))].length) * 288 <= zd then (if (z61.2.2.2.2.2.2.2.1 + 0) + 1 <= z61.2.2.2.2.2.2.2.2.2.2.2.2.1.length then (ke (.inr (z61.1, z61.2.1, z61.2.2.1, z61.2.2.2.1, z61.2.2.2.2.1, z61.2.2.2.2.2.1, z61.2.2.2.2.2.2.2.1, z61.2.2.2.2.2.2.2.2.1, z61.2.2.2.2.2.2.2.2.2.1, z61.2.2.2.2.2.2.2.2.2.2.1, z61.2.2.2.2.2.2.2.2.2.2.2.1, ((splice z61.2.2.2.2.2.2.2.2.2.2.2.2.1 (z61.2.2.2.2.2.2.2.1 + 0) [(AV.list 29 (l64 ++ [(zo (1, z61.2.2.2.1, (⟨#[]⟩ : ByteArray), 0, y68))]) (some 7040))]).map datF), (z61.2.2.2.2.2.2.2.2.2.2.2.2.2.1.map dat0), ((z61.2.2.2.2.2.2.2.1 + 0) + 1), z61.2.2.2.2.2.2.2.2.2.2.2.2.2.2.2))) else none) else none) | none => none) | none => none) | none => none) else none) else none) | _ => none) | none => none)) | none => none) | false => (match (u33.2.2.2.2.2.2.2.2.2.2.2.2.2.1.1 == 2) with | true => (ke (.inl (u33.1, u33.2.1, u33.2.2.1, u33.2.2.2.1, u33.2.2.2.2.1, u33.2.2.2.2.2.1, u33.2.2.2.2.2.2.2.1, u33.2.2.2.2.2.2.2.2.1, u33.2.2.2.2.2.2.2.2.2.1, u33.2.2.2.2.2.2.2.2.2.2.2.1, u33.2.2.2.2.2.2.2.2.2.2.2.2.1, (u33.2.2.2.2.2.2.2.2.2.2.2.2.2.2.1.map datF), (u33.2.2.2.2.2.2.2.2.2.2.2.2.2.2.2.1.map dat0), u33.2.2.2.2.2.2.2.2.2.2.2.2.2.2.2.2))) | false => (match u33.2.2.2.2.2.2.2.2.2.2.2.2.2.2.1[(u33.2.2.2.2.2.2.2.1 + 0)]? with | some c69 => (match c69 with | .list n70 l71 (some q72) => (if n70 = 29 /\ q72 = TOB + (u33.2.2.2.2.2.2.2.1 + 0) /\ u33.2.2.2.2.2.2.2.2.2.2.2.2.2.2.2.2.1 <= (u33.2.2.2.2.2.2.2.1 + 0) /\ (u33.2.2.2.2.2.2.2.1 + 0) < u33.2.2.2.2.2.2.2.2.2.2.2.2.2.2.2.2.2 then (match zb6 N (zm u33.2.2.2.2.2.2.2.2.2.2.2.2.2.1) with | some y73 => (if (l71.length + [(zo (2, u33.2.2.2.1, (⟨#[]⟩ : ByteArray), 0, y73))].length) * 288 <= zd then (if (u33.2.2.2.2.2.2.2.1 + 0) + 1 <= u33.2.2.2.2.2.2.2.2.2.2.2.2.2.2.1.length then (ke (.inr (u33.1, u33.2.1, u33.2.2.1, u33.2.2.2.1, u33.2.2.2.2.1, u33.2.2.2.2.2.1, u33.2.2.2.2.2.2.2.1, u33.2.2.2.2.2.2.2.2.1, u33.2.2.2.2.2.2.2.2.2.1, u33.2.2.2.2.2.2.2.2.2.2.2.1, u33.2.2.2.2.2.2.2.2.2.2.2.2.1, ((splice u33.2.2.2.2.2.2.2.2.2.2.2.2.2.2.1 (u33.2.2.2.2.2.2.2.1 + 0) [(AV.list 29 (l71 ++ [(zo (2, u33.2.2.2.1, (⟨#[]⟩ : ByteArray), 0, y73))]) (some 4672))]).map datF), (u33.2.2.2.2.2.2.2.2.2.2.2.2.2.2.2.1.map dat0), ((u33.2.2.2.2.2.2.2.1 + 0) + 1), u33.2.2.2.2.2.2.2.2.2.2.2.2.2.2.2.2.2))) else none) else none) | none => none) else none) | _ => none) | none => none)))
abbrev zeu (N : Nat) (x : qL × qL × qL × Int × Nat × Int × Int × Nat × Int × Int × Bool × qL × Nat × RT7 × qA × qA × Nat × Nat) : Option ((qL × qL × qL × Int × Nat × Int × Nat × Int × Int × qL × Nat × qA × qA × Nat × Nat) ⊕ (qL × qL × qL × Int × Nat × Int × Nat × Int × Int × qL × Nat × qA × qA × Nat × Nat)) := (jF N).L N x
def zax (N : Nat) : LSpec where
 X := qL × qL × qL × Int × Nat × Int × Int × Nat × Int × Int × Bool × qL × Nat × RT7 × qA × qA × Nat × Nat
 Y := (qL × qL × qL × Int × Nat × Int × Int × Nat × Int × Int × qL × Nat × RT7 × qA × qA × Nat × Nat)
 dt := .fm 166 0 (ZW 27).1.toks 36 [(11, .tok 1 1280000704), (1, .lst 25), (42, .lst 1), (2, .int .i64), (6, .ptr 6 0), (10, .ptr 10 0), (12, .vs0 39 1), (13, .int .i64), (14, .int .i64), (15, .ptrV 36), (16, .ptr 16 0), (43, .int .i64), (44, .int .i64), (58, .bool)] [(6, .cells [.tok 1 6401572864]), (10, .cells [.vs0 36 1]), (16, .row RK7), (36, .tt), (39, .tt)] rfl
 od := .mk 166 0 (ZW 27).2.toks [⟨.normal, [(11, .tok 1 1280000704), (1, .lst 25), (42, .lst 1), (2, .int .i64), (6, .ptr 6 0), (10, .ptr 10 0), (12, .vs0 39 1), (13, .int .i64), (14, .int .i64), (15, .ptrV 36), (16, .ptr 16 0), (43, .int .i64), (44, .int .i64)], [(6, .cells [.tok 1 6401572864]), (10, .cells [.vs0 36 1]), (16, .row RK7), (36, .tt), (39, .tt)], some 36⟩] rfl
 b := λ u27 α kn ke => (match u27.2.2.2.2.2.2.2.2.2.2.1 with | true => (if 0 <= u27.2.2.2.2.2.2.1 /\ u27.2.2.2.2.2.2.1 < (u27.2.2.2.2.1 : Int) then (if ((0 + u27.2.2.2.2.2.2.1.toNat) * 1) + 1 <= u27.2.2.2.2.2.2.2.2.2.2.2.2.2.2.2.1.length then (ke (u27.1, u27.2.1, u27.2.2.1, u27.2.2.2.1, u27.2.2.2.2.1, u27.2.2.2.2.2.1, u27.2.2.2.2.2.2.1, u27.2.2.2.2.2.2.2.1, u27.2.2.2.2.2.2.2.2.1, u27.2.2.2.2.2.2.2.2.2.1, u27.2.2.2.2.2.2.2.2.2.2.2.1, u27.2.2.2.2.2.2.2.2.2.2.2.2.1, u27.2.2.2.2.2.2.2.2.2.2.2.2.2.1, (u27.2.2.2.2.2.2.2.2.2.2.2.2.2.2.1.map datF), ((splice u27.2.2.2.2.2.2.2.2.2.2.2.2.2.2.2.1 ((0 + u27.2.2.2.2.2.2.1.toNat) * 1) [(AV.v (.bool true))]).map dat0), u27.2.2.2.2.2.2.2.2.2.2.2.2.2.2.2.2)) else none) else none) | false => (ke (u27.1, u27.2.1, u27.2.2.1, u27.2.2.2.1, u27.2.2.2.2.1, u27.2.2.2.2.2.1, u27.2.2.2.2.2.2.1, u27.2.2.2.2.2.2.2.1, u27.2.2.2.2.2.2.2.2.1, u27.2.2.2.2.2.2.2.2.2.1, u27.2.2.2.2.2.2.2.2.2.2.2.1, u27.2.2.2.2.2.2.2.2.2.2.2.2.1, u27.2.2.2.2.2.2.2.2.2.2.2.2.2.1, (u27.2.2.2.2.2.2.2.2.2.2.2.2.2.2.1.map datF), (u27.2.2.2.2.2.2.2.2.2.2.2.2.2.2.2.1.map dat0), u27.2.2.2.2.2.2.2.2.2.2.2.2.2.2.2.2)))
abbrev zlk (N : Nat) (x : qL × qL × qL × Int × Nat × Int × Int × Nat × Int × Int × Bool × qL × Nat × RT7 × qA × qA × Nat × Nat) : Option ((qL × qL × qL × Int × Nat × Int × Int × Nat × Int × Int × qL × Nat × RT7 × qA × qA × Nat × Nat)) := (zax N).L N x
def zaw (N : Nat) : LSpec where
 X := qL × qL × qL × Int × Nat × Int × Int × qL × Nat × qA × qA × Nat × Nat
 Y := (qL × qL × qL × Int × Int × Nat × qL × Nat × qA × qA × Nat × Nat) ⊕ (qL × qL × Int × Nat × qL × Nat × qA × qA × Nat × Nat)
 dt := .fm 166 0 (ZW 16).1.toks 36 [(11, .tok 1 1280000704), (1, .lst 25), (42, .lst 1), (2, .int .i64), (6, .ptr 6 0), (10, .ptr 10 0), (12, .vs0 39 1), (43, .int .i64), (44, .int .i64)] [(6, .cells [.tok 1 6401572864]), (10, .cells [.vs0 36 1]), (36, .tt), (39, .tt)] rfl
 od := .mk 166 0 (ZW 16).2.toks [⟨.ret, [(11, .tok 1 1280000704), (1, .lst 25), (7, .lst 1), (2, .int .i64), (6, .ptr 6 0), (8, .int .i64), (10, .ptr 10 0), (12, .vs0 39 1)], [(6, .cells [.tok 1 6401572864]), (10, .cells [.vs0 36 1]), (36, .tt), (39, .tt)], some 36⟩, ⟨.exit 0, [(11, .tok 1 1280000704), (1, .lst 25), (2, .int .i64), (6, .ptr 6 0), (10, .ptr 10 0), (12, .vs0 39 1)], [(6, .cells [.tok 1 6401572864]), (10, .cells [.vs0 36 1]), (36, .tt), (39, .tt)], some 36⟩] rfl
 b := λ u16 α kn ke => (match (decide (u16.2.2.2.2.2.2.1 < u16.2.2.2.2.2.1)) with | true => (if 0 <= u16.2.2.2.2.2.2.1 then (match u16.2.2.1[u16.2.2.2.2.2.2.1.toNat]? with | some c79 => (match c79[0]? with | some x80 => (match x80 with | .v (.int q82 n81) => (if q82 = .i64 then (if 0 <= u16.2.2.2.2.2.2.1 /\ u16.2.2.2.2.2.2.1 < (u16.2.2.2.2.2.2.2.2.1 : Int) then (match zbr (u16.2.2.2.2.2.2.2.2.2.1.drop ((0 + u16.2.2.2.2.2.2.1.toNat) * 1)) with | some e83 => (match zjR N e83.1 with | some y84 => (match zlk N (u16.1, u16.2.1, u16.2.2.1, u16.2.2.2.1, u16.2.2.2.2.1, u16.2.2.2.2.2.2.1, n81, ((0 + u16.2.2.2.2.2.2.1.toNat) * 1), u16.2.2.2.2.2.1, u16.2.2.2.2.2.2.1, (decide (n81 >= 0)), u16.2.2.2.2.2.2.2.1, u16.2.2.2.2.2.2.2.2.1, y84, (u16.2.2.2.2.2.2.2.2.2.1.map datF), (u16.2.2.2.2.2.2.2.2.2.2.1.map dat0), u16.2.2.2.2.2.2.2.2.2.2.2) with | some y85 => (match zoZ N y85.2.2.2.2.2.2.2.2.2.2.2.2.1.1 with | some y86 => (match (!y86) with | true => (kn (y85.1, y85.2.1, y85.2.2.1, y85.2.2.2.1, y85.2.2.2.2.1, y85.2.2.2.2.2.2.2.2.1, (i64 (y85.2.2.2.2.2.2.2.2.2.1 + 1)), y85.2.2.2.2.2.2.2.2.2.2.1, y85.2.2.2.2.2.2.2.2.2.2.2.1, (y85.2.2.2.2.2.2.2.2.2.2.2.2.2.1.map datF), (y85.2.2.2.2.2.2.2.2.2.2.2.2.2.2.1.map dat0), y85.2.2.2.2.2.2.2.2.2.2.2.2.2.2.2)) | false => (match zeu N (y85.1, y85.2.1, y85.2.2.1, y85.2.2.2.1, y85.2.2.2.2.1, y85.2.2.2.2.2.1, y85.2.2.2.2.2.2.1, y85.2.2.2.2.2.2.2.1, y85.2.2.2.2.2.2.2.2.1, y85.2.2.2.2.2.2.2.2.2.1, (decide (y85.2.2.2.2.2.2.1 >= 0)), y85.2.2.2.2.2.2.2.2.2.2.1, y85.2.2.2.2.2.2.2.2.2.2.2.1, y85.2.2.2.2.2.2.2.2.2.2.2.2.1, (y85.2.2.2.2.2.2.2.2.2.2.2.2.2.1.map datF), (y85.2.2.2.2.2.2.2.2.2.2.2.2.2.2.1.map dat0), y85.2.2.2.2.2.2.2.2.2.2.2.2.2.2.2) with | some y87 => (match y87 with | .inl z88 => (kn (z88.1, z88.2.1, z88.2.2.1, z88.2.2.2.1, z88.2.2.2.2.1, z88.2.2.2.2.2.2.2.1, (i64 (z88.2.2.2.2.2.2.2.2.1 + 1)), z88.2.2.2.2.2.2.2.2.2.1, z88.2.2.2.2.2.2.2.2.2.2.1, (z88.2.2.2.2.2.2.2.2.2.2.2.1.map datF), (z88.2.2.2.2.2.2.2.2.2.2.2.2.1.map dat0), z88.2.2.2.2.2.2.2.2.2.2.2.2.2)) | .inr z89 => (match z89.2.2.2.2.2.2.2.2.2.2.2.1[(z89.2.2.2.2.2.2.1 + 0)]? with | some x90 => (match Zf 29 x90 with | some l91 => (match (decide ((l91.length : Int) > 100)) with | true => (ke (.inl (z89.1, z89.2.1, ([] : qL), z89.2.2.2.1, 8, z89.2.2.2.2.1, ([] : qL), z89.2.2.2.2.2.2.2.2.2.2.1, (z89.2.2.2.2.2.2.2.2.2.2.2.1.map datF), (z89.2.2.2.2.2.2.2.2.2.2.2.2.1.map dat0), z89.2.2.2.2.2.2.2.2.2.2.2.2.2))) | false => (if (z89.1.length + [[(AV.v (.int .i64 z89.2.2.2.2.2.1))]].length) * 8 <= zd then (kn ((z89.1 ++ [[(AV.v (.int .i64 z89.2.2.2.2.2.1))]]), z89.2.1, z89.2.2.1, z89.2.2.2.1, z89.2.2.2.2.1, z89.2.2.2.2.2.2.2.1, (i64 (z89.2.2.2.2.2.2.2.2.1 + 1)), z89.2.2.2.2.2.2.2.2.2.1, z89.2.2.2.2.2.2.2.2.2.2.1, (z89.2.2.2.2.2.2.2.2.2.2.2.1.map datF), (z89.2.2.2.2.2.2.2.2.2.2.2.2.1.map dat0), z89.2.2.2.2.2.2.2.2.2.2.2.2.2)) else none)) | none => none) | none => none)) | none => none)) | none => none) | none => none) | none => none) | none => none) else none) else none) | _ => none) | none => none) | none => none) else none) | false => (ke (.inr (u16.1, u16.2.1, u16.2.2.2.1, u16.2.2.2.2.1, u16.2.2.2.2.2.2.2.1, u16.2.2.2.2.2.2.2.2.1, (u16.2.2.2.2.2.2.2.2.2.1.map datF), (u16.2.2.2.2.2.2.2.2.2.2.1.map dat0), u16.2.2.2.2.2.2.2.2.2.2.2))))
abbrev zlj (N : Nat) (x : qL × qL × qL × Int × Nat × Int × Int × qL × Nat × qA × qA × Nat × Nat) : Option ((qL × qL × qL × Int × Int × Nat × qL × Nat × qA × qA × Nat × Nat) ⊕ (qL × qL × Int × Nat × qL × Nat × qA × qA × Nat × Nat)) := (zaw N).L N x
def zgO (N : Nat) : FSpec where
 X := qL × qL × Int
 Y := qL × qL × Int
 ad := .mk [.ags [.sl 1], .lst 25, .int .i64] [] rfl
 S := ⟨[[some 1], [some 1], [none]], [], [], [], []⟩
 ret := λ y => qR (AV.tup [(AV.agg [(AV.list 1 y.1 none)]), (AV.list 1 y.2.1 none), (AV.v (.int .i64 y.2.2))])
 t := λ x α k => (match zgP N x.1 with | some y1 => (match (!y1) with | true => (k (([] : qL), ([] : qL), 1)) | false => (match zg2 N x.2.1 with | some y2 => (match (!y2) with | true => (k (([] : qL), ([] : qL), 1)) | false => (match zjP N (x.1, x.2.2) with | some y3 => (match (y3 != 0) with | true => (k (([] : qL), ([] : qL), y3)) | false => (match zig N x.1 with | some y4 => (if 0 <= (x.2.1.length : Int) /\ (x.2.1.length : Int) <= (x.2.1.length : Int) /\ (x.2.1.length : Int).toNat * 1 <= zd then (match zlM N (x.1, x.2.1) with | some y5 => (match zlj N (([] : qL), x.2.1, y5, x.2.2, ((x.2.1.length : Int).toNat), (y5.length : Int), 0, ([] : qL), y4.1, ((y4.2.1.map (datJ y4.2.2.1 y4.2.2.2)).map datF), ((List.replicate (x.2.1.length : Int).toNat (AV.v (.bool false))).map dat0), y4.2.2) with | some y92 => (match y92 with | .inl z93 => (k (z93.2.2.2.2.2.2.1, z93.2.2.1, z93.2.2.2.2.1)) | .inr z94 => (match zgN N (z94.1, z94.2.1, z94.2.2.1, z94.2.2.2.1, (z94.2.1.length : Int), 0, z94.2.2.2.2.1, z94.2.2.2.2.2.1, (z94.2.2.2.2.2.2.2.1.map dat0), (z94.2.2.2.2.2.2.1.map dat0)) with | some y105 => (match (decide (((y105.2.2.1 : Nat) : Int) > 500)) with | true => (k (([] : qL), ([] : qL), 8)) | false => (if y105.2.2.1 * 1 <= y105.2.2.2.length then (k ((zp (y105.2.2.2.take (y105.2.2.1 * 1)) 1 y105.2.2.1), y105.1, 0)) else none)) | none => none)) | none => none) | none => none) else none) | none => none)) | none => none)) | none => none)) | none => none)
abbrev zav (N : Nat) (x : qL × qL × Int) : Option (qL × qL × Int) := (zgO N).d x
def zdx (N : Nat) : List (Nat × LSpec) := [(16, zaw N), (27, zax N), (33, jF N), (35, j4 N), (46, zay N)]
def J6 : Code := Tryz.f26.body.getD .skip
theorem zjC (N : Nat) : zP qP ZW N (zdx N) 46 (zb 46 J6) :=
 zy (zr qP [36, 66, 101, 156]) zf (zjA N) (l := []) an (zay N)
theorem zaz (N : Nat) : zP qP ZW N (zdx N) 35 (zb 35 J6) :=
 Jn (zr qP [36, 66, 101, 156]) zf (zjA N) (l := []) an (j4 N)
theorem zdw (N : Nat) : zP qP ZW N (zdx N) 33 (zb 33 J6) :=
 Jn (zr qP [36, 66, 101, 156]) zf (zjA N) (l := [(35, zb 35 J6)]) (al (zaz N) an) (jF N)
theorem zdv (N : Nat) : zP qP ZW N (zdx N) 27 (zb 27 J6) :=
 Jn (zr qP [36, 66, 101, 156]) zf (zjA N) (l := []) an (zax N)
theorem zjB (N : Nat) : zP qP ZW N (zdx N) 16 (zb 16 J6) :=
 zy (zr qP [36, 66, 101, 156]) zf (zjA N) (l := [(27, zb 27 J6), (33, zb 33 J6), (35, zb 35 J6)]) (al (zdv N) (al (zdw N) (al (zaz N) an))) (zaw N)
def zwU (N : Nat) : Ent qP := zG (zr qP [36, 66, 101, 156]) zf (zjA N) 26 Tryz.f26 Tryz.func26 ZW N (zdx N) (l := [(16, zb 16 J6), (27, zb 27 J6), (33, zb 33 J6), (35, zb 35 J6), (46, zb 46 J6)]) (al (zjB N) (al (zdv N) (al (zdw N) (al (zaz N) (al (zjC N) an))))) (zgO N)
end
end
section
noncomputable section
open Go.RowKit
set_option maxRecDepth 4000
set_option maxHeartbeats 4000000
def zxH : Nat -> Keep × Keep := anL []
def zBA (N : Nat) : List (Ent qP) := []
def zxJ (N : Nat) : FSpec where
 X := qL
 Y := qL
 ad := .mk [.lst 29] [] rfl
 S := ⟨[[none]], [], [some 29], [], []⟩
 ret := λ y => ⟨(AV.fn (.func 92) [] [(AV.ptr 0 0)]), [], some [(AV.list 29 y none)], [], [], [], none⟩
 t := λ x α k => (k x)
abbrev zxI (N : Nat) (x : qL) : Option (qL) := (zxJ N).d x
def zBz (N : Nat) : Ent qP := zG (zc qP) zf (zBA N) 59 Tryz.f59 Tryz.func59 zxH N [] (l := []) an (zxJ N)
def zdC : Nat -> Keep × Keep := anL []
def zlw (N : Nat) : List (Ent qP) := [zo0 N]
def Zl (N : Nat) : FSpec where
 X := Int × RT7 × Int × qL
 Y := Bool × Int × qL
 ad := .mk [.any, .any, .any, .ptr 0 0, .any, .ptr 1 0, .any, .any, .any, .any, .any, .any, .any, .any, .any, .any, .any, .any, .any, .any, .any, .any, .any, .int .i64, .agg RK7, .any, .any, .any, .any, .any, .any, .any, .any, .any, .any, .any, .any, .any, .any, .any, .any] [.cells [.int .i64], .cells [.tok 25 6400262144]] rfl
 ash := []
 S := ⟨[], [[none], [some 2000025]], [], [6400262144], []⟩
 ret := λ y => ⟨.v (.bool y.1), [[(AV.v (.int .i64 y.2.1))], [(AV.list 25 y.2.2 (some 6400262144))]], none, [6400262144], [6400262144], [], none⟩
 t := λ x α k => (match (decide (x.2.1.2.1 <= x.2.2.1)) with | true => (if 0 <= x.2.1.1 /\ x.2.1.1 < 7 then (match ((gtab0.map AV.v).drop (x.2.1.1.toNat * 1))[0]? with | some x1 => (match x1 with | .v (.bool b2) => (match b2 with | true => (match zb6 N (zm x.2.1) with | some y3 => (if (x.2.2.2.length + [(zl y3)].length) * 248 <= zd then (k (false, x.2.2.1, (x.2.2.2 ++ [(zl y3)]))) else none) | none => none) | false => (k (false, x.2.2))) | _ => none) | none => none) else none) | false => (k (true, x.2.2)))
abbrev zbU (N : Nat) (x : Int × RT7 × Int × qL) : Option (Bool × Int × qL) := (Zl N).d x
def zaA : Code := zzV (zb 17 (Tryz.f30.body.getD .skip))
def zaB : Code := zvj (zb 17 (Tryz.f30.body.getD .skip))
theorem zfJ (N : Nat) (x : (Zl N).X) : ziu (zbv qP) (gam (zlw N)) zdC (lam N []) zaA zaB 9000 9100 2 (Zl N).S ((Zl N).args x) ((Zl N).bs x) = (Zl N).t x Ret (λ y => some ((Zl N).ret y)) := by kernel_rfl
def zfI (N : Nat) : REnt qP zaA zaB 2 := zz5 (zc qP) (jn _) zf zdC (lam N []) zaA zaB 9000 9100 2 (by kernel_rfl) (by kernel_rfl) (Zl N) (λ _ => ⟨rfl, rfl⟩) (zfJ N) (λ _ _ _ h => zsh h (λ _ _ => rfl) (λ _ _ => rfl)) (Zl N).par
def J7 : Nat -> Keep × Keep := anL [(9, ⟨[3, 5, 15, 16], [], [3, 5], [(14, 1)], [((5, 0), 25)], [], [], [], false, none, []⟩, ⟨[5], [], [5], [], [((5, 0), 25)], [], [], [], false, none, []⟩), (17, ⟨[3, 5, 15, 16, 22], [], [3, 5, 22], [(14, 1)], [((5, 0), 25)], [], [], [], true, none, []⟩, ⟨[3, 5, 15, 16], [], [3, 5], [(14, 1)], [((5, 0), 25)], [], [], [], false, none, []⟩)]
def zwZ (N : Nat) : List (Ent qP) := [zlq N, zBz N]
def zO (N : Nat) : LSpec where
 X := qL × Int × Int × Int × qL × qL × Nat
 Y := (qL × Int × Int × Int × qL)
 od := .mk 41 0 (J7 17).2.toks [⟨.normal, [(14, .lst 1), (3, .ptr 3 0), (5, .ptr 5 0), (15, .int .i64), (16, .int .i64)], [(3, .cells [.int .i64]), (5, .cells [.tok 25 6401310720])], none⟩] rfl
 p := λ s => rdS 41 0 [(14, .lst 1), (3, .ptr 3 0), (5, .ptr 5 0), (15, .int .i64), (16, .int .i64), (22, .fn1 92 22)] [(3, .cells [.int .i64]), (5, .cells [.tok 25 6401310720]), (22, .cells [.lst 29])] s λ ⟨a0, _, _, a1, a2, _, _⟩ ⟨⟨a3, _⟩, ⟨a4, _⟩, ⟨a5, _⟩, _⟩ => (a0, a1, a2, a3, a4, a5, a5.length)
 st := λ u17 => mkS 41 [(14, (AV.list 1 u17.1 none)), (3, (AV.ptr 3 0)), (5, (AV.ptr 5 0)), (15, (qI u17.2.1)), (16, (qI u17.2.2.1)), (22, (AV.fn (.func 92) [] [(AV.ptr 22 0)]))] [(3, [(qI u17.2.2.2.1)]), (5, [(AV.list 25 u17.2.2.2.2.1 (some 6401310720))]), (22, [(AV.list 29 u17.2.2.2.2.2.1 none)])] (J7 17).1.toks 0
 b := λ u17 α kn ke => (if u17.2.2.2.2.2.1.length <= 1000000 then (match u17.2.2.2.2.2.2 with | 0 => (ke (u17.1, u17.2.1, u17.2.2.1, u17.2.2.2.1, u17.2.2.2.2.1)) | m17 + 1 => (match u17.2.2.2.2.2.1[m17]? with | some r17 => (match zpB RK7 r17 with | some e17 => (match zbU N ((m17 : Int), e17, u17.2.2.2.1, u17.2.2.2.2.1) with | some y5 => (match y5.1 with | true => (kn (u17.1, u17.2.1, u17.2.2.1, y5.2.1, y5.2.2, u17.2.2.2.2.2.1, m17)) | false => (ke (u17.1, u17.2.1, u17.2.2.1, y5.2))) | none => none) | none => none) | none => none)) else none)
abbrev zlu (N : Nat) (x : qL × Int × Int × Int × qL × qL × Nat) : Option ((qL × Int × Int × Int × qL)) := (zO N).L N x
def jL (N : Nat) : LSpec where
 X := qL × Int × Int × Int × qL
 Y := (qL)
 dt := .mk 41 0 (J7 9).1.toks [(14, .lst 1), (3, .ptr 3 0), (5, .ptr 5 0), (15, .int .i64), (16, .int .i64)] [(3, .cells [.int .i64]), (5, .cells [.tok 25 6401310720])] rfl
 od := .mk 41 0 (J7 9).2.toks [⟨.exit 0, [(5, .ptr 5 0)], [(5, .cells [.tok 25 6401310720])], none⟩] rfl
 b := λ u9 α kn ke => (match (decide (u9.2.2.1 < u9.2.1)) with | true => (if 0 <= u9.2.2.1 then (match u9.1[u9.2.2.1.toNat]? with | some c7 => (match zbr c7 with | some e8 => (match zxI N e8.1 with | some y9 => (match zlu N (u9.1, u9.2.1, u9.2.2.1, u9.2.2.2.1, u9.2.2.2.2, y9, y9.length) with | some y10 => (kn (y10.1, y10.2.1, (i64 (y10.2.2.1 + 1)), y10.2.2.2)) | none => none) | none => none) | none => none) | none => none) else none) | false => (ke u9.2.2.2.2))
abbrev zq9 (N : Nat) (x : qL × Int × Int × Int × qL) : Option ((qL)) := (jL N).L N x
def zoM (N : Nat) : FSpec where
 X := qL × Int
 Y := qL
 ad := .mk [.ags [.sl 1], .int .i64] [] rfl
 S := ⟨[[some 2000025]], [], [], [], []⟩
 ret := λ y => ⟨(AV.list 25 y (some 2560000000)), [], none, [], [2560000000], [], none⟩
 t := λ x α k => (match zgP N x.1 with | some y1 => (match (!y1) with | true => (k ([] : qL)) | false => (match zq9 N (x.1, (x.1.length : Int), 0, x.2, ([] : qL)) with | some y11 => (k y11) | none => none)) | none => none)
abbrev zew (N : Nat) (x : qL × Int) : Option (qL) := (zoM N).d x
def zh4 (N : Nat) : List (Nat × LSpec) := [(9, jL N), (17, zO N)]
def zjE : Code := Tryz.f30.body.getD .skip
theorem zjD (N : Nat) (u17 : (zO N).X) (α : Type) (kn : Nat -> AS -> Option α) (ke : Out -> Option α) : JE (zfI N).F J7 17 fBk RK7 22 23 24 [3, 5] u17.2.2.2.2.2.2 ((zO N).st u17) kn ke = (zO N).b u17 α (λ x => kn x.2.2.2.2.2.2 ((zO N).st x)) (λ y => (zO N).sp y α ke) := by kernel_rfl
theorem zoK (N : Nat) (u17 : (zO N).X) : ((zO N).st u17).at 22 = .fn (.func fBk) [] [.ptr 22 0] := by kernel_rfl
theorem zoL (N : Nat) (u17 : (zO N).X) : ((zO N).st u17).cx 22 = some [.list 29 u17.2.2.2.2.2.1 none] := by kernel_rfl
theorem zdB (N : Nat) : zP qP J7 N (zh4 N) 17 (zb 17 zjE) :=
 zvm J7 N (zh4 N) 17 zjE (by kernel_rfl) (by decide) (zfI N) (zO N) (λ x => x.2.2.2.2.2.2) rfl (λ s x hc h => by dsimp only [zO] at h; exact zsi hc h (λ _ _ => rfl) rfl rfl rfl) 22 (λ u17 => u17.2.2.2.2.2.1) (zoK N) (zoL N) (λ s x h => by dsimp only [zO] at h; obtain ⟨a, b, rfl⟩ := zz4 h; rfl) (λ x b h => znT rfl h) (λ y b h => znT rfl h) (zjD N) (zO N).par
theorem zlv (N : Nat) : zP qP J7 N (zh4 N) 9 (zb 9 zjE) :=
 zy (zc qP) zf (zwZ N) (l := [(17, zb 17 zjE)]) (al (zdB N) an) (jL N)
def zwY (N : Nat) : Ent qP := zG (zc qP) zf (zwZ N) 30 Tryz.f30 Tryz.func30 J7 N (zh4 N) (l := [(9, zb 9 zjE), (17, zb 17 zjE)]) (al (zlv N) (al (zdB N) an)) (zoM N)
end
end
section
noncomputable section
open Go.RowKit
set_option maxRecDepth 4000
set_option maxHeartbeats 4000000
def zxg : Nat -> Keep × Keep := anL []
def zBg (N : Nat) : List (Ent qP) := []
def zs4 (N : Nat) : FSpec where
 X := Int × Int
 Y := Int
 ad := .mk [.int .i64, .int .i64] [] rfl
 ret := λ y => qR (AV.v (.int .i64 y))
 t := λ x α k => (match (decide (x.2 < 1)) with | true => (k 0) | false => (if x.2 = 0 then none else (match (decide ((x.1.tmod x.2) < 0)) with | true => (k (i64 ((x.1.tmod x.2) + x.2))) | false => (k (x.1.tmod x.2)))))
abbrev zoV (N : Nat) (x : Int × Int) : Option (Int) := (zs4 N).d x
def zxh (N : Nat) : Ent qP := zG (zc qP) zf (zBg N) 42 Tryz.f42 Tryz.func42 zxg N [] (l := []) an (zs4 N)
def zxm : Nat -> Keep × Keep := anL []
def zBl (N : Nat) : List (Ent qP) := [zxh N]
def zxo (N : Nat) : FSpec where
 X := Int
 Y := RT2
 ad := .mk [.int .i64] [] rfl
 S := ⟨[[none, none, none, none]], [], [], [], []⟩
 ret := λ y => qR (AV.agg (Ren2 y))
 t := λ x α k => (match zoV N (x, 6) with | some y1 => (if 0 <= y1 then (match [[(AV.v (.string (⟨#[83, 49]⟩ : ByteArray)))], [(AV.v (.string (⟨#[83, 50]⟩ : ByteArray)))], [(AV.v (.string (⟨#[83, 51]⟩ : ByteArray)))], [(AV.v (.string (⟨#[83, 52]⟩ : ByteArray)))], [(AV.v (.string (⟨#[83, 53]⟩ : ByteArray)))], [(AV.v (.string (⟨#[83, 54]⟩ : ByteArray)))]][y1.toNat]? with | some c2 => (match c2[0]? with | some x3 => (match x3 with | .v (.string s4) => (k ((⟨#[65, 66]⟩ : ByteArray), s4, (⟨#[48, 48]⟩ : ByteArray), (⟨#[66, 72, 90]⟩ : ByteArray), ())) | _ => none) | none => none) | none => none) else none) | none => none)
abbrev zs7 (N : Nat) (x : Int) : Option (RT2) := (zxo N).d x
def zxn (N : Nat) : Ent qP := zG (zc qP) zf (zBl N) 45 Tryz.f45 Tryz.func45 zxm N [] (l := []) an (zxo N)
def zwR : Nat -> Keep × Keep := anL []
def zA6 (N : Nat) : List (Ent qP) := [zxn N]
def zwT (N : Nat) : FSpec where
 X := Unit
 Y := RT0
 ad := .mk [] [] rfl
 S := ⟨[[none, none, none, none, none, none, none, none, none, some 9, none, none, none, none, none, none, none, none, none, none, none, none, none, none, none]], [], [], [], []⟩
 ret := λ y => qR (AV.agg (zl y))
 t := λ x α k => (match zs7 N 0 with | some y1 => (k (y1.1, y1.2.1, y1.2.2.1, y1.2.2.2.1, 1000, 0, 0, 0, 0, [(zh (y1.1, y1.2.1, y1.2.2.1, y1.2.2.2.1, 1000, 0, 0, 0, 0, ()))], 0, 0, 0, 0, 0, 0, 0, 0, 0, 0, 0, 0, 0, 0, 0, ())) | none => none)
abbrev zoJ (N : Nat) (x : Unit) : Option (RT0) := (zwT N).d x
def zwS (N : Nat) : Ent qP := zG (zc qP) zf (zA6 N) 25 Tryz.f25 Tryz.func25 zwR N [] (l := []) an (zwT N)
def zwD : Nat -> Keep × Keep := anL []
def zAW (N : Nat) : List (Ent qP) := [zBp N]
def zwE (N : Nat) : FSpec where
 X := qL × Int × ByteArray × RT0 × Int
 Y := qL × Int
 ad := .mk [.ags [.sl 1], .int .i64, .str, .agg RK0, .int .i64] [] rfl
 S := ⟨[[some 1], [none]], [], [], [], []⟩
 ret := λ y => qR (AV.tup [(AV.agg [(AV.list 1 y.1 none)]), (AV.v (.int .i64 y.2))])
 t := λ x α k => (match zBo N (x.1, x.2.1, (3, x.2.2.2.2, x.2.2.1, 0, x.2.2.2.1.1, x.2.2.2.1.2.1, x.2.2.2.1.2.2.1, x.2.2.2.1.2.2.2.1, x.2.2.2.1.2.2.2.2.1, x.2.2.2.1.2.2.2.2.2.1, x.2.2.2.1.2.2.2.2.2.2.1, x.2.2.2.1.2.2.2.2.2.2.2.1, x.2.2.2.1.2.2.2.2.2.2.2.2.1, x.2.2.2.1.2.2.2.2.2.2.2.2.2.1, x.2.2.2.1.2.2.2.2.2.2.2.2.2.2.1, x.2.2.2.1.2.2.2.2.2.2.2.2.2.2.2.1, x.2.2.2.1.2.2.2.2.2.2.2.2.2.2.2.2.1, x.2.2.2.1.2.2.2.2.2.2.2.2.2.2.2.2.2.1, x.2.2.2.1.2.2.2.2.2.2.2.2.2.2.2.2.2.2.1, x.2.2.2.1.2.2.2.2.2.2.2.2.2.2.2.2.2.2.2.1, x.2.2.2.1.2.2.2.2.2.2.2.2.2.2.2.2.2.2.2.2.1, x.2.2.2.1.2.2.2.2.2.2.2.2.2.2.2.2.2.2.2.2.2.1, x.2.2.2.1.2.2.2.2.2.2.2.2.2.2.2.2.2.2.2.2.2.2.1, x.2.2.2.1.2.2.2.2.2.2.2.2.2.2.2.2.2.2.2.2.2.2.2.1, x.2.2.2.1.2.2.2.2.2.2.2.2.2.2.2.2.2.2.2.2.2.2.2.2.1, x.2.2.2.1.2.2.2.2.2.2.2.2.2.2.2.2.2.2.2.2.2.2.2.2.2.1, x.2.2.2.1.2.2.2.2.2.2.2.2.2.2.2.2.2.2.2.2.2.2.2.2.2.2.1, x.2.2.2.1.2.2.2.2.2.2.2.2.2.2.2.2.2.2.2.2.2.2.2.2.2.2.2.1, x.2.2.2.1.2.2.2.2.2.2.2.2.2.2.2.2.2.2.2.2.2.2.2.2.2.2.2.2.1, ())) with | some y1 => (k y1) | none => none)
abbrev zAU (N : Nat) (x : qL × Int × ByteArray × RT0 × Int) : Option (qL × Int) := (zwE N).d x
def zAV (N : Nat) : Ent qP := zG (zc qP) zf (zAW N) 16 Tryz.f16 Tryz.func16 zwD N [] (l := []) an (zwE N)
def zh6 : Nat -> Keep × Keep := anL [(8, ⟨[12, 13], [], [], [(0, 1), (1, 1)], [], [], [], [], false, none, []⟩, qK [4] [] [])]
def zw7 (N : Nat) : List (Ent qP) := []
def zdE (N : Nat) : LSpec where
 X := qL × qL × Int × Int
 Y := (Bool) ⊕ (Unit)
 dt := .mk 26 0 (zh6 8).1.toks [(0, .lst 1), (1, .lst 1), (12, .int .i64), (13, .int .i64)] [] rfl
 od := .mk 26 0 (zh6 8).2.toks [⟨.ret, [(4, .bool)], [], none⟩, ⟨.exit 0, [], [], none⟩] rfl
 b := λ u8 α kn ke => (match (decide (u8.2.2.2 < u8.2.2.1)) with | true => (if 0 <= u8.2.2.2 then (match u8.1[u8.2.2.2.toNat]? with | some c1 => (match c1[0]? with | some x2 => (match x2 with | .v (.int q4 n3) => (if q4 = .i64 then (if 0 <= u8.2.2.2 then (match u8.2.1[u8.2.2.2.toNat]? with | some c5 => (match c5[0]? with | some x6 => (match x6 with | .v (.int q8 n7) => (if q8 = .i64 then (match (n3 != n7) with | true => (ke (.inl false)) | false => (kn (u8.1, u8.2.1, u8.2.2.1, (i64 (u8.2.2.2 + 1))))) else none) | _ => none) | none => none) | none => none) else none) else none) | _ => none) | none => none) | none => none) else none) | false => (ke (.inr ())))
abbrev zrc (N : Nat) (x : qL × qL × Int × Int) : Option ((Bool) ⊕ (Unit)) := (zdE N).L N x
def zsX (N : Nat) : FSpec where
 X := qL × qL
 Y := Bool
 ad := .mk [.lst 1, .lst 1] [] rfl
 ret := λ y => qR (AV.v (.bool y))
 t := λ x α k => (match ((x.1.length : Int) != (x.2.length : Int)) with | true => (k false) | false => (match zrc N (x.1, x.2, (x.1.length : Int), 0) with | some y9 => (match y9 with | .inl z10 => (k z10) | .inr z11 => (k true)) | none => none))
abbrev zgQ (N : Nat) (x : qL × qL) : Option (Bool) := (zsX N).d x
def zrd (N : Nat) : List (Nat × LSpec) := [(8, zdE N)]
def zw5 : Code := Tryz.f35.body.getD .skip
theorem zlE (N : Nat) : zP qP zh6 N (zrd N) 8 (zb 8 zw5) :=
 zy (zc qP) zf (zw7 N) (l := []) an (zdE N)
def zw6 (N : Nat) : Ent qP := zG (zc qP) zf (zw7 N) 35 Tryz.f35 Tryz.func35 zh6 N (zrd N) (l := [(8, zb 8 zw5)]) (al (zlE N) an) (zsX N)
def zB4 : Nat -> Keep × Keep := anL []
def F8_g (N : Nat) : List (Ent qP) := [zwS N, zwU N, zAV N, zw6 N, zwY N]
def zDi (N : Nat) : FSpec where
 X := Unit
 Y := Bool
 ad := .mk [] [] rfl
 ret := λ y => qR (AV.v (.bool y))
 t := λ x α k => (match zoJ N () with | some y1 => (match zav N (([] : qL), [(zl y1)], 5) with | some y2 => (match zav N (y2.1, ([] : qL), 6) with | some y3 => (match zoJ N () with | some y4 => (match zAU N (y2.1, 0, (⟨#[97, 110, 110]⟩ : ByteArray), y4, 6) with | some y5 => (match zav N (y5.1, ([] : qL), 7) with | some y6 => (match (y2.2.2 == 0) with | true => (match zgQ N (y2.2.1, [[(AV.v (.int .i64 0))]]) with | some y7 => (match y7 with | true => (match (y3.2.2 == 0) with | true => (match zgQ N (y3.2.1, [[(AV.v (.int .i64 0))]]) with | some y8 => (match y8 with | true => (match zew N (y3.1, 6) with | some y9 => (match ((y9.length : Int) == 0) with | true => (match zew N (y3.1, 5) with | some y10 => (match ((y10.length : Int) == 1) with | true => (match (y5.2 == 0) with | true => (match (y6.2.2 == 0) with | true => (match ((y6.2.1.length : Int) == 0) with | true => (match zew N (y6.1, 7) with | some y11 => (k ((y11.length : Int) == 1)) | none => none) | false => (k false)) | false => (k false)) | false => (k false)) | false => (k false)) | none => none) | false => (k false)) | none => none) | false => (k false)) | none => none) | false => (k false)) | false => (k false)) | none => none) | false => (k false)) | none => none) | none => none) | none => none) | none => none) | none => none) | none => none)
abbrev zAr (N : Nat) (x : Unit) : Option (Bool) := (zDi N).d x
def F8_e (N : Nat) : Ent qP := zG (zc qP) zf (F8_g N) 8 Tryz.f8 Tryz.func8 zB4 N [] (l := []) an (zDi N)
end
end
section
noncomputable section
open Go.RowKit
set_option maxRecDepth 4000
set_option maxHeartbeats 4000000
def zwF : Nat -> Keep × Keep := anL []
def zAY (N : Nat) : List (Ent qP) := [zoX N]
def zwH (N : Nat) : FSpec where
 X := qL × Int × ByteArray × RT0 × Int
 Y := qL × Int
 ad := .mk [.ags [.sl 1], .int .i64, .str, .agg RK0, .int .i64] [] rfl
 S := ⟨[[some 1], [none]], [], [], [], []⟩
 ret := λ y => qR (AV.tup [(AV.agg [(AV.list 1 y.1 none)]), (AV.v (.int .i64 y.2))])
 t := λ x α k => (match zjN N (x.1, x.2.1, (3, x.2.2.2.2, x.2.2.1, 0, x.2.2.2.1.1, x.2.2.2.1.2.1, x.2.2.2.1.2.2.1, x.2.2.2.1.2.2.2.1, x.2.2.2.1.2.2.2.2.1, x.2.2.2.1.2.2.2.2.2.1, x.2.2.2.1.2.2.2.2.2.2.1, x.2.2.2.1.2.2.2.2.2.2.2.1, x.2.2.2.1.2.2.2.2.2.2.2.2.1, x.2.2.2.1.2.2.2.2.2.2.2.2.2.1, x.2.2.2.1.2.2.2.2.2.2.2.2.2.2.1, x.2.2.2.1.2.2.2.2.2.2.2.2.2.2.2.1, x.2.2.2.1.2.2.2.2.2.2.2.2.2.2.2.2.1, x.2.2.2.1.2.2.2.2.2.2.2.2.2.2.2.2.2.1, x.2.2.2.1.2.2.2.2.2.2.2.2.2.2.2.2.2.2.1, x.2.2.2.1.2.2.2.2.2.2.2.2.2.2.2.2.2.2.2.1, x.2.2.2.1.2.2.2.2.2.2.2.2.2.2.2.2.2.2.2.2.1, x.2.2.2.1.2.2.2.2.2.2.2.2.2.2.2.2.2.2.2.2.2.1, x.2.2.2.1.2.2.2.2.2.2.2.2.2.2.2.2.2.2.2.2.2.2.1, x.2.2.2.1.2.2.2.2.2.2.2.2.2.2.2.2.2.2.2.2.2.2.2.1, x.2.2.2.1.2.2.2.2.2.2.2.2.2.2.2.2.2.2.2.2.2.2.2.2.1, x.2.2.2.1.2.2.2.2.2.2.2.2.2.2.2.2.2.2.2.2.2.2.2.2.2.1, x.2.2.2.1.2.2.2.2.2.2.2.2.2.2.2.2.2.2.2.2.2.2.2.2.2.2.1, x.2.2.2.1.2.2.2.2.2.2.2.2.2.2.2.2.2.2.2.2.2.2.2.2.2.2.2.1, x.2.2.2.1.2.2.2.2.2.2.2.2.2.2.2.2.2.2.2.2.2.2.2.2.2.2.2.2.1, ())) with | some y1 => (k y1) | none => none)
abbrev zwG (N : Nat) (x : qL × Int × ByteArray × RT0 × Int) : Option (qL × Int) := (zwH N).d x
def zAX (N : Nat) : Ent qP := zG (zc qP) zf (zAY N) 17 Tryz.f17 Tryz.func17 zwF N [] (l := []) an (zwH N)
def zwI : Nat -> Keep × Keep := anL []
def zA0 (N : Nat) : List (Ent qP) := [zoX N]
def zwK (N : Nat) : FSpec where
 X := qL × Int × ByteArray × Int
 Y := qL × Int
 ad := .mk [.ags [.sl 1], .int .i64, .str, .int .i64] [] rfl
 S := ⟨[[some 1], [none]], [], [], [], []⟩
 ret := λ y => qR (AV.tup [(AV.agg [(AV.list 1 y.1 none)]), (AV.v (.int .i64 y.2))])
 t := λ x α k => (match zjN N (x.1, x.2.1, (4, x.2.2.2, x.2.2.1, 0, (⟨#[]⟩ : ByteArray), (⟨#[]⟩ : ByteArray), (⟨#[]⟩ : ByteArray), (⟨#[]⟩ : ByteArray), 0, 0, 0, 0, 0, ([] : qL), 0, 0, 0, 0, 0, 0, 0, 0, 0, 0, 0, 0, 0, 0, 0, ())) with | some y1 => (k y1) | none => none)
abbrev zwJ (N : Nat) (x : qL × Int × ByteArray × Int) : Option (qL × Int) := (zwK N).d x
def zAZ (N : Nat) : Ent qP := zG (zc qP) zf (zA0 N) 19 Tryz.f19 Tryz.func19 zwI N [] (l := []) an (zwK N)
def zwL : Nat -> Keep × Keep := anL []
def zA2 (N : Nat) : List (Ent qP) := [zoX N]
def zwN (N : Nat) : FSpec where
 X := qL × Int × Int × ByteArray × Int
 Y := qL × Int
 ad := .mk [.ags [.sl 1], .int .i64, .int .i64, .str, .int .i64] [] rfl
 S := ⟨[[some 1], [none]], [], [], [], []⟩
 ret := λ y => qR (AV.tup [(AV.agg [(AV.list 1 y.1 none)]), (AV.v (.int .i64 y.2))])
 t := λ x α k => (match zjN N (x.1, x.2.1, (5, x.2.2.2.2, x.2.2.2.1, x.2.2.1, (⟨#[]⟩ : ByteArray), (⟨#[]⟩ : ByteArray), (⟨#[]⟩ : ByteArray), (⟨#[]⟩ : ByteArray), 0, 0, 0, 0, 0, ([] : qL), 0, 0, 0, 0, 0, 0, 0, 0, 0, 0, 0, 0, 0, 0, 0, ())) with | some y1 => (k y1) | none => none)
abbrev zwM (N : Nat) (x : qL × Int × Int × ByteArray × Int) : Option (qL × Int) := (zwN N).d x
def zA1 (N : Nat) : Ent qP := zG (zc qP) zf (zA2 N) 21 Tryz.f21 Tryz.func21 zwL N [] (l := []) an (zwN N)
def zwO : Nat -> Keep × Keep := anL []
def zA4 (N : Nat) : List (Ent qP) := [zoX N]
def zwQ (N : Nat) : FSpec where
 X := qL × Int × ByteArray × Int
 Y := qL × Int
 ad := .mk [.ags [.sl 1], .int .i64, .str, .int .i64] [] rfl
 S := ⟨[[some 1], [none]], [], [], [], []⟩
 ret := λ y => qR (AV.tup [(AV.agg [(AV.list 1 y.1 none)]), (AV.v (.int .i64 y.2))])
 t := λ x α k => (match zjN N (x.1, x.2.1, (6, x.2.2.2, x.2.2.1, 0, (⟨#[]⟩ : ByteArray), (⟨#[]⟩ : ByteArray), (⟨#[]⟩ : ByteArray), (⟨#[]⟩ : ByteArray), 0, 0, 0, 0, 0, ([] : qL), 0, 0, 0, 0, 0, 0, 0, 0, 0, 0, 0, 0, 0, 0, 0, ())) with | some y1 => (k y1) | none => none)
abbrev zwP (N : Nat) (x : qL × Int × ByteArray × Int) : Option (qL × Int) := (zwQ N).d x
def zA3 (N : Nat) : Ent qP := zG (zc qP) zf (zA4 N) 23 Tryz.f23 Tryz.func23 zwO N [] (l := []) an (zwQ N)
def zbR : Nat -> Keep × Keep := anL [(8, qK [2, 3, 5] [] [2, 3], qK [4] [] []), (21, ⟨[2, 3, 5, 8], [], [2, 3], [(6, 29), (7, 29)], [], [], [], [], false, none, []⟩, qK [2, 3, 4, 5] [] [2, 3])]
def zsK (N : Nat) : List (Ent qP) := [zte N]
def zau (N : Nat) : LSpec where
 X := qL × qL × Int × Int × qL × qL
 Y := (Bool × Int × qL × qL) ⊕ (Int × qL × qL)
 dt := .mk 110 0 (zbR 21).1.toks [(6, .lst 29), (7, .lst 29), (2, .ptr 2 0), (3, .ptr 3 0), (5, .int .i64), (8, .int .i64)] [(2, .cells [.lst 1]), (3, .cells [.lst 1])] rfl
 od := .mk 110 0 (zbR 21).2.toks [⟨.ret, [(2, .ptr 2 0), (3, .ptr 3 0), (4, .bool), (5, .int .i64)], [(2, .cells [.lst 1]), (3, .cells [.lst 1])], none⟩, ⟨.exit 2, [(2, .ptr 2 0), (3, .ptr 3 0), (5, .int .i64)], [(2, .cells [.lst 1]), (3, .cells [.lst 1])], none⟩] rfl
 b := λ u21 α kn ke => (match (decide (u21.2.2.2.1 < (u21.1.length : Int))) with | true => (if 0 <= u21.2.2.2.1 then (match u21.1[u21.2.2.2.1.toNat]? with | some c42 => (match (c42.drop 0)[0]? with | some x43 => (match x43 with | .v (.int q45 n44) => (if q45 = .i64 then (if 0 <= u21.2.2.2.1 then (match u21.2.1[u21.2.2.2.1.toNat]? with | some c46 => (match (c46.drop 0)[0]? with | some x47 => (match x47 with | .v (.int q49 n48) => (if q49 = .i64 then (match (n44 != n48) with | true => (ke (.inl (false, u21.2.2.1, u21.2.2.2.2))) | false => (if 0 <= u21.2.2.2.1 then (match u21.1[u21.2.2.2.1.toNat]? with | some c50 => (match (c50.drop 1)[0]? with | some x51 => (match x51 with | .v (.int q53 n52) => (if q53 = .i64 then (if 0 <= u21.2.2.2.1 then (match u21.2.1[u21.2.2.2.1.toNat]? with | some c54 => (match (c54.drop 1)[0]? with | some x55 => (match x55 with | .v (.int q57 n56) => (if q57 = .i64 then (match (n52 != n56) with | true => (ke (.inl (false, u21.2.2.1, u21.2.2.2.2))) | false => (if 0 <= u21.2.2.2.1 then (match u21.1[u21.2.2.2.1.toNat]? with | some c58 => (match (c58.drop 2)[0]? with | some x59 => (match x59 with | .v (.string s60) => (if 0 <= u21.2.2.2.1 then (match u21.2.1[u21.2.2.2.1.toNat]? with | some c61 => (match (c61.drop 2)[0]? with | some x62 => (match x62 with | .v (.string s63) => (match (!(s60.toList == s63.toList)) with | true => (ke (.inl (false, u21.2.2.1, u21.2.2.2.2))) | false => (if 0 <= u21.2.2.2.1 then (match u21.1[u21.2.2.2.1.toNat]? with | some c64 => (match (c64.drop 3)[0]? with | some x65 => (match x65 with | .v (.int q67 n66) => (if q67 = .i64 then (if 0 <= u21.2.2.2.1 then (match u21.2.1[u21.2.2.2.1.toNat]? with | some c68 => (match (c68.drop 3)[0]? with | some x69 => (match x69 with | .v (.int q71 n70) => (if q71 = .i64 then (match (n66 != n70) with | true => (ke (.inl (false, u21.2.2.1, u21.2.2.2.2))) | false => (if 0 <= u21.2.2.2.1 then (match u21.1[u21.2.2.2.1.toNat]? with | some c72 => (match zeE (c72.drop 4) with | some e73 => (if 0 <= u21.2.2.2.1 then (match u21.2.1[u21.2.2.2.1.toNat]? with | some c74 => (match zeE (c74.drop 4) with | some e75 => (match zb3 N (e73, e75) with | some y76 => (match (!y76) with | true => (ke (.inl (false, u21.2.2.1, u21.2.2.2.2))) | false => (kn (u21.1, u21.2.1, u21.2.2.1, (i64 (u21.2.2.2.1 + 1)), u21.2.2.2.2))) | none => none) | none => none) | none => none) else none) | none => none) | none => none) else none)) else none) | _ => none) | none => none) | none => none) else none) else none) | _ => none) | none => none) | none => none) else none)) | _ => none) | none => none) | none => none) else none) | _ => none) | none => none) | none => none) else none)) else none) | _ => none) | none => none) | none => none) else none) else none) | _ => none) | none => none) | none => none) else none)) else none) | _ => none) | none => none) | none => none) else none) else none) | _ => none) | none => none) | none => none) else none) | false => (ke (.inr (u21.2.2.1, u21.2.2.2.2))))
abbrev zlg (N : Nat) (x : qL × qL × Int × Int × qL × qL) : Option ((Bool × Int × qL × qL) ⊕ (Int × qL × qL)) := (zau N).L N x
def zdt (N : Nat) : LSpec where
 X := Int × qL × qL
 Y := (Bool) ⊕ (Unit)
 dt := .mk 110 0 (zbR 8).1.toks [(2, .ptr 2 0), (3, .ptr 3 0), (5, .int .i64)] [(2, .cells [.lst 1]), (3, .cells [.lst 1])] rfl
 od := .mk 110 0 (zbR 8).2.toks [⟨.ret, [(4, .bool)], [], none⟩, ⟨.exit 0, [], [], none⟩] rfl
 b := λ u8 α kn ke => (match (decide (u8.1 < (u8.2.1.length : Int))) with | true => (if 0 <= u8.1 then (match u8.2.1[u8.1.toNat]? with | some c1 => (match (c1.drop 0)[0]? with | some x2 => (match Zf 29 x2 with | some l3 => (if 0 <= u8.1 then (match u8.2.2[u8.1.toNat]? with | some c4 => (match (c4.drop 0)[0]? with | some x5 => (match Zf 29 x5 with | some l6 => (match ((l3.length : Int) != (l6.length : Int)) with | true => (ke (.inl false)) | false => (match zlg N (l3, l6, u8.1, 0, u8.2) with | some y77 => (match y77 with | .inl z78 => (ke (.inl z78.1)) | .inr z79 => (kn ((i64 (z79.1 + 1)), z79.2))) | none => none)) | none => none) | none => none) | none => none) else none) | none => none) | none => none) | none => none) else none) | false => (ke (.inr ())))
abbrev zq4 (N : Nat) (x : Int × qL × qL) : Option ((Bool) ⊕ (Unit)) := (zdt N).L N x
def zsL (N : Nat) : FSpec where
 X := qL × qL
 Y := Bool
 ad := .mk [.ags [.sl 1], .ags [.sl 1]] [] rfl
 ret := λ y => qR (AV.v (.bool y))
 t := λ x α k => (match ((x.1.length : Int) != (x.2.length : Int)) with | true => (k false) | false => (match zq4 N (0, x) with | some y80 => (match y80 with | .inl z81 => (k z81) | .inr z82 => (k true)) | none => none))
abbrev zoI (N : Nat) (x : qL × qL) : Option (Bool) := (zsL N).d x
def zli (N : Nat) : List (Nat × LSpec) := [(8, zdt N), (21, zau N)]
def zlf : Code := Tryz.f24.body.getD .skip
theorem zdu (N : Nat) : zP qP zbR N (zli N) 21 (zb 21 zlf) :=
 zy (zc qP) zf (zsK N) (l := []) an (zau N)
theorem zlh (N : Nat) : zP qP zbR N (zli N) 8 (zb 8 zlf) :=
 zy (zc qP) zf (zsK N) (l := [(21, zb 21 zlf)]) (al (zdu N) an) (zdt N)
def zA5 (N : Nat) : Ent qP := zG (zc qP) zf (zsK N) 24 Tryz.f24 Tryz.func24 zbR N (zli N) (l := [(8, zb 8 zlf), (21, zb 21 zlf)]) (al (zlh N) (al (zdu N) an)) (zsL N)
end
end
section
noncomputable section
open Go.RowKit
set_option maxRecDepth 4000
set_option maxHeartbeats 4000000
def zCl : Nat -> Keep × Keep := anL []
def F9_g (N : Nat) : List (Ent qP) := []
def zCn (N : Nat) : FSpec where
 X := qL
 Y := qL × Int
 ad := .mk [.lst 1] [] rfl
 S := ⟨[[none]], [], [some 1, none], [], []⟩
 ret := λ y => ⟨(AV.ptr 0 0), [], some [(AV.list 1 y.1 none), (AV.v (.int .i64 y.2))], [], [], [], none⟩
 t := λ x α k => (if 0 <= (if 2000 < (x.length : Int) then 2000 else (x.length : Int)) /\ (if 2000 < (x.length : Int) then 2000 else (x.length : Int)) <= x.length then (k ((x.take (if 2000 < (x.length : Int) then 2000 else (x.length : Int)).toNat), 0)) else none)
abbrev zCm (N : Nat) (x : qL) : Option (qL × Int) := (zCn N).d x
def F9_e (N : Nat) : Ent qP := zG (zc qP) zf (F9_g N) 9 Tryz.f9 Tryz.func9 zCl N [] (l := []) an (zCn N)
def zxi : Nat -> Keep × Keep := anL []
def zBi (N : Nat) : List (Ent qP) := []
def zs6 (N : Nat) : FSpec where
 X := qL × Int
 Y := Int × qL × Int
 ad := .mk [.ptr 0 0] [.cells [.lst 1, .int .i64]] rfl
 bsh := [[some 1, none]]
 S := ⟨[[none]], [[some 1, none]], [], [], []⟩
 ret := λ y => ⟨(AV.v (.int .i64 y.1)), [[(AV.list 1 y.2.1 none), (AV.v (.int .i64 y.2.2))]], none, [], [], [], none⟩
 t := λ x α k => (match (decide (x.2 >= (x.1.length : Int))) with | true => (k (0, x)) | false => (if 0 <= (i64 ((i64 (x.2 + 1)) - 1)) then (match x.1[(i64 ((i64 (x.2 + 1)) - 1)).toNat]? with | some c1 => (match c1[0]? with | some x2 => (match x2 with | .v (.int q4 n3) => (if q4 = .i64 then (k (n3, x.1, (i64 (x.2 + 1)))) else none) | _ => none) | none => none) | none => none) else none))
abbrev zs5 (N : Nat) (x : qL × Int) : Option (Int × qL × Int) := (zs6 N).d x
def zBh (N : Nat) : Ent qP := zG (zc qP) zf (zBi N) 43 Tryz.f43 Tryz.func43 zxi N [] (l := []) an (zs6 N)
def zww : Nat -> Keep × Keep := anL []
def zAQ (N : Nat) : List (Ent qP) := [zBh N, zxh N]
def zsH (N : Nat) : FSpec where
 X := Int × qL × Int
 Y := Int × qL × Int
 ad := .mk [.ptr 0 0, .int .i64] [.cells [.lst 1, .int .i64]] rfl
 bsh := [[some 1, none]]
 S := ⟨[[none]], [[some 1, none]], [], [], []⟩
 ret := λ y => ⟨(AV.v (.int .i64 y.1)), [[(AV.list 1 y.2.1 none), (AV.v (.int .i64 y.2.2))]], none, [], [], [], none⟩
 t := λ x α k => (match zs5 N x.2 with | some y1 => (match zoV N (y1.1, x.1) with | some y2 => (k (y2, y1.2)) | none => none) | none => none)
abbrev Za (N : Nat) (x : Int × qL × Int) : Option (Int × qL × Int) := (zsH N).d x
def zfF (N : Nat) : Ent qP := zG (zc qP) zf (zAQ N) 11 Tryz.f11 Tryz.func11 zww N [] (l := []) an (zsH N)
abbrev RK8 : List Ck := [.str, .str, .str, .str, .int .i64, .int .i64, .int .i64, .int .i64, .int .i64, .tk 9 6401049152, .int .i64, .int .i64, .int .i64, .int .i64, .int .i64, .int .i64, .int .i64, .int .i64, .int .i64, .int .i64, .int .i64, .int .i64, .int .i64, .int .i64, .int .i64]
abbrev RT8 : Type := ByteArray × ByteArray × ByteArray × ByteArray × Int × Int × Int × Int × Int × qL × Int × Int × Int × Int × Int × Int × Int × Int × Int × Int × Int × Int × Int × Int × Int × Unit
abbrev RT9 : Type := ByteArray × ByteArray × ByteArray × ByteArray × Int × Int × Int × Int × Int × qL × Int × Int × Int × Int × Int × Int × Int × Int × Int × Int × Int × Int × Int × Int × Int × Unit
def zxp : Nat -> Keep × Keep := anL []
def zBn (N : Nat) : List (Ent qP) := [zfF N]
def zs9 (N : Nat) : FSpec where
 X := Int × qL × Int
 Y := Int × Int × Int × qL × Int
 ad := .mk [.ptr 0 0, .int .i64] [.cells [.lst 1, .int .i64]] rfl
 bsh := [[some 1, none]]
 S := ⟨[[none, none, none]], [[some 1, none]], [], [], []⟩
 ret := λ y => ⟨(AV.agg [(AV.v (.int .i64 y.1)), (AV.v (.int .i64 y.2.1)), (AV.v (.int .i64 y.2.2.1))]), [[(AV.list 1 y.2.2.2.1 none), (AV.v (.int .i64 y.2.2.2.2))]], none, [], [], [], none⟩
 t := λ x α k => (match Za N ((i64 ((i64 (2 * x.1)) + 1)), x.2) with | some y1 => (match Za N ((i64 ((i64 (2 * x.1)) + 1)), y1.2) with | some y2 => (match Za N ((i64 (x.1 + 1)), y2.2) with | some y3 => (k ((i64 (y1.1 - x.1)), (i64 (y2.1 - x.1)), y3)) | none => none) | none => none) | none => none)
abbrev zs8 (N : Nat) (x : Int × qL × Int) : Option (Int × Int × Int × qL × Int) := (zs9 N).d x
def zBm (N : Nat) : Ent qP := zG (zc qP) zf (zBn N) 46 Tryz.f46 Tryz.func46 zxp N [] (l := []) an (zs9 N)
def zwA : Nat -> Keep × Keep := anL []
def zAT (N : Nat) : List (Ent qP) := [zfF N]
def zsJ (N : Nat) : FSpec where
 X := qL × qL × Int
 Y := Int × qL × Int
 ad := .mk [.ptr 0 0, .lst 1] [.cells [.lst 1, .int .i64]] rfl
 bsh := [[some 1, none]]
 S := ⟨[[none]], [[some 1, none]], [], [], []⟩
 ret := λ y => ⟨(AV.v (.int .i64 y.1)), [[(AV.list 1 y.2.1 none), (AV.v (.int .i64 y.2.2))]], none, [], [], [], none⟩
 t := λ x α k => (match Za N ((x.1.length : Int), x.2) with | some y1 => (if 0 <= y1.1 then (match x.1[y1.1.toNat]? with | some c2 => (match c2[0]? with | some x3 => (match x3 with | .v (.int q5 n4) => (if q5 = .i64 then (k (n4, y1.2)) else none) | _ => none) | none => none) | none => none) else none) | none => none)
abbrev zjy (N : Nat) (x : qL × qL × Int) : Option (Int × qL × Int) := (zsJ N).d x
def zwB (N : Nat) : Ent qP := zG (zc qP) zf (zAT N) 14 Tryz.f14 Tryz.func14 zwA N [] (l := []) an (zsJ N)
abbrev zDm : List Ck := [.str, .str, .str, .str, .int .i64, .int .i64, .int .i64, .int .i64, .int .i64, .vs 2020489 9, .int .i64, .int .i64, .int .i64, .int .i64, .int .i64, .int .i64, .int .i64, .int .i64, .int .i64, .int .i64, .int .i64, .int .i64, .int .i64, .int .i64, .int .i64]
abbrev zyM : Type := ByteArray × ByteArray × ByteArray × ByteArray × Int × Int × Int × Int × Int × Nat × Int × Int × Int × Int × Int × Int × Int × Int × Int × Int × Int × Int × Int × Int × Int × Unit
abbrev RK11 : List Ck := [.str, .str, .str, .str, .int .i64, .int .i64, .int .i64, .int .i64, .int .i64, .vs 1 9, .int .i64, .int .i64, .int .i64, .int .i64, .int .i64, .int .i64, .int .i64, .int .i64, .int .i64, .int .i64, .int .i64, .int .i64, .int .i64, .int .i64, .int .i64]
abbrev zyN : Type := ByteArray × ByteArray × ByteArray × ByteArray × Int × Int × Int × Int × Int × Nat × Int × Int × Int × Int × Int × Int × Int × Int × Int × Int × Int × Int × Int × Int × Int × Unit
def zCs (e : zyN) : List AV := enc RK11 e
def zet : Nat -> Keep × Keep := anL [(6, ⟨[0, 1, 4, 5, 6, 7], [], [0, 4, 5], [], [((4, 9), 9)], [], [((5, 9), 9)], [], false, none, []⟩, ⟨[0, 4, 5, 6], [], [0, 4, 5], [], [((4, 9), 9)], [], [((5, 9), 9)], [], false, none, []⟩)]
def zq3 (N : Nat) : List (Ent qP) := [zfF N, zxn N, zBm N, zwB N]
def Zu (N : Nat) : LSpec where
 X := Int × Int × Int × qL × Int × RT8 × zyM × qA
 Y := (Int × qL × Int × RT8 × zyM × qA)
 dt := .mk 98 1 (zet 6).1.toks [(0, .ptr 0 0), (1, .int .i64), (4, .ptr 4 0), (5, .ptr 5 0), (6, .int .i64), (7, .int .i64)] [(0, .cells [.lst 1, .int .i64]), (4, .row RK8), (5, .row zDm), (2020489, .tt)] rfl
 od := .mk 98 1 (zet 6).2.toks [⟨.exit 0, [(0, .ptr 0 0), (4, .ptr 4 0), (5, .ptr 5 0), (6, .int .i64)], [(0, .cells [.lst 1, .int .i64]), (4, .row RK8), (5, .row zDm), (2020489, .tt)], none⟩] rfl
 b := λ u6 α kn ke => (match Za N (4, u6.2.2.2.1, u6.2.2.2.2.1) with | some y5 => (match (decide (u6.2.2.1 < (i64 (1 + y5.1)))) with | true => (match zs7 N u6.2.2.1 with | some y6 => (match Za N (3, y5.2) with | some y7 => (if u6.2.2.2.2.2.2.1.2.2.2.2.2.2.2.2.2.1 * 9 <= u6.2.2.2.2.2.2.2.length /\ (u6.2.2.2.2.2.2.1.2.2.2.2.2.2.2.2.2.1 + [(zh (y6.1, y6.2.1, y6.2.2.1, y6.2.2.2.1, (i64 (u6.2.1 + (i64 (10 * u6.1)))), (i64 (u6.2.1 + (i64 (10 * u6.1)))), (i64 ((i64 (u6.2.1 + (i64 (10 * u6.1)))) + y7.1)), u6.1, 0, ()))].length) * 104 <= zd then (kn (u6.1, u6.2.1, (i64 (u6.2.2.1 + 1)), y7.2.1, y7.2.2, u6.2.2.2.2.2.1, (u6.2.2.2.2.2.2.1.1, u6.2.2.2.2.2.2.1.2.1, u6.2.2.2.2.2.2.1.2.2.1, u6.2.2.2.2.2.2.1.2.2.2.1, u6.2.2.2.2.2.2.1.2.2.2.2.1, u6.2.2.2.2.2.2.1.2.2.2.2.2.1, u6.2.2.2.2.2.2.1.2.2.2.2.2.2.1, u6.2.2.2.2.2.2.1.2.2.2.2.2.2.2.1, u6.2.2.2.2.2.2.1.2.2.2.2.2.2.2.2.1, (u6.2.2.2.2.2.2.1.2.2.2.2.2.2.2.2.2.1 + [(zh (y6.1, y6.2.1, y6.2.2.1, y6.2.2.2.1, (i64 (u6.2.1 + (i64 (10 * u6.1)))), (i64 (u6.2.1 + (i64 (10 * u6.1)))), (i64 ((i64 (u6.2.1 + (i64 (10 * u6.1)))) + y7.1)), u6.1, 0, ()))].length), u6.2.2.2.2.2.2.1.2.2.2.2.2.2.2.2.2.2), ((u6.2.2.2.2.2.2.2.take (u6.2.2.2.2.2.2.1.2.2.2.2.2.2.2.2.2.1 * 9) ++ [(zh (y6.1, y6.2.1, y6.2.2.1, y6.2.2.2.1, (i64 (u6.2.1 + (i64 (10 * u6.1)))), (i64 (u6.2.1 + (i64 (10 * u6.1)))), (i64 ((i64 (u6.2.1 + (i64 (10 * u6.1)))) + y7.1)), u6.1, 0, ()))].flatten).map dat0))) else none) | none => none) | none => none) | false => (ke (u6.2.1, y5.2.1, y5.2.2, u6.2.2.2.2.2.1, u6.2.2.2.2.2.2.1, (u6.2.2.2.2.2.2.2.map dat0)))) | none => none)
abbrev zlc (N : Nat) (x : Int × Int × Int × qL × Int × RT8 × zyM × qA) : Option ((Int × qL × Int × RT8 × zyM × qA)) := (Zu N).L N x
def zle (N : Nat) : FSpec where
 X := Int × qL × Int
 Y := zyN × qL × Int × qA
 ad := .mk [.ptr 0 0, .int .i64] [.cells [.lst 1, .int .i64]] rfl
 bsh := [[some 1, none]]
 S := ⟨[[none, none, none, none, none, none, none, none, none, some 9, none, none, none, none, none, none, none, none, none, none, none, none, none, none, none]], [[some 1, none]], [], [], []⟩
 bm := true
 ret := λ y => ⟨(AV.agg (zCs y.1)), [[(AV.list 1 y.2.1 none), (AV.v (.int .i64 y.2.2.1))]], some y.2.2.2, [], [], [], none⟩
 t := λ x α k => (match Za N (300, x.2) with | some y1 => (match zlc N (x.1, (i64 (1000 + y1.1)), 0, y1.2.1, y1.2.2, ((⟨#[]⟩ : ByteArray), (⟨#[]⟩ : ByteArray), (⟨#[]⟩ : ByteArray), (⟨#[]⟩ : ByteArray), 0, 0, 0, 0, 0, ([] : qL), 0, 0, 0, 0, 0, 0, 0, 0, 0, 0, 0, 0, 0, 0, 0, ()), ((⟨#[]⟩ : ByteArray), (⟨#[]⟩ : ByteArray), (⟨#[]⟩ : ByteArray), (⟨#[]⟩ : ByteArray), 0, 0, 0, 0, 0, 0, 0, 0, 0, 0, 0, 0, 0, 0, 0, 0, 0, 0, 0, 0, 0, ()), ([] : List AV)) with | some y8 => (if 0 <= (0 : Int) /\ (0 : Int) < (y8.2.2.2.2.1.2.2.2.2.2.2.2.2.2.1 : Int) then (match jk (y8.2.2.2.2.2.drop ((0 + (0 : Int).toNat) * 9)) with | some e9 => (match zs8 N (20, y8.2.1, y8.2.2.1) with | some y10 => (match Za N (40, y10.2.2.2) with | some y11 => (match zjy N ([[(AV.v (.int .i64 0))], [(AV.v (.int .i64 0))], [(AV.v (.int .i64 5))], [(AV.v (.int .i64 500))]], y11.2) with | some y12 => (match Za N (3, y12.2) with | some y13 => (match (decide (y13.1 > 0)) with | true => (match Za N (400, y13.2) with | some y14 => (match Za N (60, y14.2) with | some y15 => (k ((e9.1, e9.2.1, e9.2.2.1, e9.2.2.2.1, e9.2.2.2.2.1, e9.2.2.2.2.2.1, e9.2.2.2.2.2.2.1, e9.2.2.2.2.2.2.2.1, e9.2.2.2.2.2.2.2.2.1, y8.2.2.2.2.1.2.2.2.2.2.2.2.2.2.1, y10.1, y10.2.1, y10.2.2.1, (i64 (y8.1 - y11.1)), y12.1, 0, y10.1, y10.2.1, y10.2.2.1, y10.1, y10.2.1, y10.2.2.1, y14.1, (i64 (y14.1 + y15.1)), y13.1, ()), y15.2.1, y15.2.2, (y8.2.2.2.2.2.map dat0))) | none => none) | none => none) | false => (k ((e9.1, e9.2.1, e9.2.2.1, e9.2.2.2.1, e9.2.2.2.2.1, e9.2.2.2.2.2.1, e9.2.2.2.2.2.2.1, e9.2.2.2.2.2.2.2.1, e9.2.2.2.2.2.2.2.2.1, y8.2.2.2.2.1.2.2.2.2.2.2.2.2.2.1, y10.1, y10.2.1, y10.2.2.1, (i64 (y8.1 - y11.1)), y12.1, 0, y10.1, y10.2.1, y10.2.2.1, y10.1, y10.2.1, y10.2.2.1, y8.2.2.2.2.1.2.2.2.2.2.2.2.2.2.2.2.2.2.2.2.2.2.2.2.2.2.2.1, y8.2.2.2.2.1.2.2.2.2.2.2.2.2.2.2.2.2.2.2.2.2.2.2.2.2.2.2.2.1, y13.1, ()), y13.2.1, y13.2.2, (y8.2.2.2.2.2.map dat0)))) | none => none) | none => none) | none => none) | none => none) | none => none) else none) | none => none) | none => none)
abbrev zlb (N : Nat) (x : Int × qL × Int) : Option (zyN × qL × Int × qA) := (zle N).d x
def zld (N : Nat) : List (Nat × LSpec) := [(6, Zu N)]
def zq2 : Code := Tryz.f15.body.getD .skip
theorem zjz (N : Nat) : zP qP zet N (zld N) 6 (zb 6 zq2) :=
 zy (zr qP [41]) zf (zq3 N) (l := []) an (Zu N)
def zwC (N : Nat) : Ent qP := zG (zr qP [41]) zf (zq3 N) 15 Tryz.f15 Tryz.func15 zet N (zld N) (l := [(6, zb 6 zq2)]) (al (zjz N) an) (zle N)
abbrev zDn : List Ck := [.str, .str, .str, .str, .int .i64, .int .i64, .int .i64, .int .i64, .int .i64, .vs 19 9, .int .i64, .int .i64, .int .i64, .int .i64, .int .i64, .int .i64, .int .i64, .int .i64, .int .i64, .int .i64, .int .i64, .int .i64, .int .i64, .int .i64, .int .i64]
abbrev zAs : Type := ByteArray × ByteArray × ByteArray × ByteArray × Int × Int × Int × Int × Int × Nat × Int × Int × Int × Int × Int × Int × Int × Int × Int × Int × Int × Int × Int × Int × Int × Unit
def zbS : Nat -> Keep × Keep := anF [(5, ⟨[0, 1, 6], [], [0], [], [], [(5, 25)], [], [], false, none, []⟩, ⟨[], [], [0], [], [], [(5, 25)], [], [], false, none, []⟩), (18, ⟨[0, 1, 5, 6, 7, 23, 24], [], [0, 7, 19, 1000005], [], [], [], [], [19, 1000005], false, none, []⟩, ⟨[0, 1, 5, 6, 7], [], [0, 7, 19, 1000005], [], [], [], [], [19, 1000005], false, none, []⟩)] [(100015, ([], [((7, 9), 9)])), (100016, ([5], []))]
def zsN (N : Nat) : List (Ent qP) := [zfF N, zwC N]
def ZR (N : Nat) : LSpec where
 X := Int × Nat × Int × Int × Int × qL × Int × zAs × qA × qA
 Y := (Int × Nat × Int × qL × Int × zAs × qA × qA)
 dt := .mk 86 1 (zbS 18).1.toks [(0, .ptr 0 0), (1, .int .i64), (5, .vs0 1000005 25), (6, .int .i64), (7, .ptr 7 0), (23, .int .i64), (24, .int .i64)] [(0, .cells [.lst 1, .int .i64]), (7, .row zDn), (19, .tt), (1000005, .tt)] rfl
 od := .mk 86 1 (zbS 18).2.toks [⟨.exit 2, [(0, .ptr 0 0), (1, .int .i64), (5, .vs0 1000005 25), (6, .int .i64), (7, .ptr 7 0)], [(0, .cells [.lst 1, .int .i64]), (7, .row zDn), (19, .tt), (1000005, .tt)], none⟩] rfl
 b := λ u18 α kn ke => (match (decide (u18.2.2.2.2.1 < u18.2.2.2.1)) with | true => (if 0 <= u18.2.2.2.2.1 /\ u18.2.2.2.2.1 < (u18.2.2.2.2.2.2.2.1.2.2.2.2.2.2.2.2.2.1 : Int) then (if (((0 + u18.2.2.2.2.1.toNat) * 9) + 4) + 1 <= u18.2.2.2.2.2.2.2.2.1.length then (if (((0 + u18.2.2.2.2.1.toNat) * 9) + 5) + 1 <= (splice u18.2.2.2.2.2.2.2.2.1 (((0 + u18.2.2.2.2.1.toNat) * 9) + 4) [(AV.v (.int .i64 (i64 ((i64 (1000 + (i64 (400 * u18.2.2.1)))) + u18.2.2.2.2.1))))]).length then (if (((0 + u18.2.2.2.2.1.toNat) * 9) + 6) + 1 <= (splice (splice u18.2.2.2.2.2.2.2.2.1 (((0 + u18.2.2.2.2.1.toNat) * 9) + 4) [(AV.v (.int .i64 (i64 ((i64 (1000 + (i64 (400 * u18.2.2.1)))) + u18.2.2.2.2.1))))]) (((0 + u18.2.2.2.2.1.toNat) * 9) + 5) [(AV.v (.int .i64 (i64 ((i64 (1000 + (i64 (400 * u18.2.2.1)))) + u18.2.2.2.2.1))))]).length then (if (((0 + u18.2.2.2.2.1.toNat) * 9) + 7) + 1 <= (splice (splice (splice u18.2.2.2.2.2.2.2.2.1 (((0 + u18.2.2.2.2.1.toNat) * 9) + 4) [(AV.v (.int .i64 (i64 ((i64 (1000 + (i64 (400 * u18.2.2.1)))) + u18.2.2.2.2.1))))]) (((0 + u18.2.2.2.2.1.toNat) * 9) + 5) [(AV.v (.int .i64 (i64 ((i64 (1000 + (i64 (400 * u18.2.2.1)))) + u18.2.2.2.2.1))))]) (((0 + u18.2.2.2.2.1.toNat) * 9) + 6) [(AV.v (.int .i64 (i64 ((i64 ((i64 (1000 + (i64 (400 * u18.2.2.1)))) + u18.2.2.2.2.1)) + 2))))]).length then (kn (u18.1, u18.2.1, u18.2.2.1, u18.2.2.2.1, (i64 (u18.2.2.2.2.1 + 1)), u18.2.2.2.2.2.1, u18.2.2.2.2.2.2.1, u18.2.2.2.2.2.2.2.1, ((splice (splice (splice (splice u18.2.2.2.2.2.2.2.2.1 (((0 + u18.2.2.2.2.1.toNat) * 9) + 4) [(AV.v (.int .i64 (i64 ((i64 (1000 + (i64 (400 * u18.2.2.1)))) + u18.2.2.2.2.1))))]) (((0 + u18.2.2.2.2.1.toNat) * 9) + 5) [(AV.v (.int .i64 (i64 ((i64 (1000 + (i64 (400 * u18.2.2.1)))) + u18.2.2.2.2.1))))]) (((0 + u18.2.2.2.2.1.toNat) * 9) + 6) [(AV.v (.int .i64 (i64 ((i64 ((i64 (1000 + (i64 (400 * u18.2.2.1)))) + u18.2.2.2.2.1)) + 2))))]) (((0 + u18.2.2.2.2.1.toNat) * 9) + 7) [(AV.v (.int .i64 7))]).map dat0), (u18.2.2.2.2.2.2.2.2.2.map dat0))) else none) else none) else none) else none) else none) | false => (ke (u18.1, u18.2.1, u18.2.2.1, u18.2.2.2.2.2.1, u18.2.2.2.2.2.2.1, u18.2.2.2.2.2.2.2.1, (u18.2.2.2.2.2.2.2.2.1.map dat0), (u18.2.2.2.2.2.2.2.2.2.map dat0))))
abbrev zsM (N : Nat) (x : Int × Nat × Int × Int × Int × qL × Int × zAs × qA × qA) : Option ((Int × Nat × Int × qL × Int × zAs × qA × qA)) := (ZR N).L N x
def ZX (N : Nat) : LSpec where
 X := Nat × Int × Int × qL × Int × qA
 Y := (Nat × qL × Int × qA)
 dt := .mk 86 1 (zbS 5).1.toks [(5, .vs0 1000005 25), (0, .ptr 0 0), (1, .int .i64), (6, .int .i64)] [(0, .cells [.lst 1, .int .i64]), (1000005, .tt)] rfl
 od := .mk 86 1 (zbS 5).2.toks [⟨.exit 0, [(5, .vs0 1000005 25)], [(0, .cells [.lst 1, .int .i64]), (1000005, .tt)], none⟩] rfl
 b := λ u5 α kn ke => (match (decide (u5.2.2.1 < u5.2.1)) with | true => (match Za N (3, u5.2.2.2.1, u5.2.2.2.2.1) with | some y6 => (match (y6.1 == 0) with | true => (kn (u5.1, u5.2.1, (i64 (u5.2.2.1 + 1)), y6.2.1, y6.2.2, (u5.2.2.2.2.2.map dat0))) | false => (match zlb N (1, y6.2) with | some y7 => (match zsM N (u5.2.1, u5.1, u5.2.2.1, ((y7.1.2.2.2.2.2.2.2.2.2.1 : Nat) : Int), 0, y7.2.1, y7.2.2.1, y7.1, ((y7.2.2.2.map dat0).map dat0), (u5.2.2.2.2.2.map dat0)) with | some y8 => (match Za N (2, y8.2.2.2.1, y8.2.2.2.2.1) with | some y9 => (if 0 <= (if (i64 (((y8.2.2.2.2.2.1.2.2.2.2.2.2.2.2.2.1 : Nat) : Int) - 1)) < y9.1 then (i64 (((y8.2.2.2.2.2.1.2.2.2.2.2.2.2.2.2.1 : Nat) : Int) - 1)) else y9.1) /\ (if (i64 (((y8.2.2.2.2.2.1.2.2.2.2.2.2.2.2.2.1 : Nat) : Int) - 1)) < y9.1 then (i64 (((y8.2.2.2.2.2.1.2.2.2.2.2.2.2.2.2.1 : Nat) : Int) - 1)) else y9.1) <= (y8.2.2.2.2.2.1.2.2.2.2.2.2.2.2.2.1 : Int) then (if 0 <= (0 : Int) /\ (0 : Int) < (((y8.2.2.2.2.2.1.2.2.2.2.2.2.2.2.2.1 - (if (i64 (((y8.2.2.2.2.2.1.2.2.2.2.2.2.2.2.2.1 : Nat) : Int) - 1)) < y9.1 then (i64 (((y8.2.2.2.2.2.1.2.2.2.2.2.2.2.2.2.1 : Nat) : Int) - 1)) else y9.1).toNat) : Nat) : Int) then (match jk (y8.2.2.2.2.2.2.1.drop (((0 + (if (i64 (((y8.2.2.2.2.2.1.2.2.2.2.2.2.2.2.2.1 : Nat) : Int) - 1)) < y9.1 then (i64 (((y8.2.2.2.2.2.1.2.2.2.2.2.2.2.2.2.1 : Nat) : Int) - 1)) else y9.1).toNat) + (0 : Int).toNat) * 9)) with | some e10 => (if (y8.2.2.2.2.2.1.2.2.2.2.2.2.2.2.2.1 - (if (i64 (((y8.2.2.2.2.2.1.2.2.2.2.2.2.2.2.2.1 : Nat) : Int) - 1)) < y9.1 then (i64 (((y8.2.2.2.2.2.1.2.2.2.2.2.2.2.2.2.1 : Nat) : Int) - 1)) else y9.1).toNat) * 9 <= (ZF (0 + (if (i64 (((y8.2.2.2.2.2.1.2.2.2.2.2.2.2.2.2.1 : Nat) : Int) - 1)) < y9.1 then (i64 (((y8.2.2.2.2.2.1.2.2.2.2.2.2.2.2.2.1 : Nat) : Int) - 1)) else y9.1).toNat) 9 y8.2.2.2.2.2.2.1).length then (if y8.2.1 * 25 <= y8.2.2.2.2.2.2.2.length /\ (y8.2.1 + [(zl (e10.1, e10.2.1, e10.2.2.1, e10.2.2.2.1, e10.2.2.2.2.1, e10.2.2.2.2.2.1, e10.2.2.2.2.2.2.1, e10.2.2.2.2.2.2.2.1, e10.2.2.2.2.2.2.2.2.1, (zp ((ZF (0 + (if (i64 (((y8.2.2.2.2.2.1.2.2.2.2.2.2.2.2.2.1 : Nat) : Int) - 1)) < y9.1 then (i64 (((y8.2.2.2.2.2.1.2.2.2.2.2.2.2.2.2.1 : Nat) : Int) - 1)) else y9.1).toNat) 9 y8.2.2.2.2.2.2.1).take ((y8.2.2.2.2.2.1.2.2.2.2.2.2.2.2.2.1 - (if (i64 (((y8.2.2.2.2.2.1.2.2.2.2.2.2.2.2.2.1 : Nat) : Int) - 1)) < y9.1 then (i64 (((y8.2.2.2.2.2.1.2.2.2.2.2.2.2.2.2.1 : Nat) : Int) - 1)) else y9.1).toNat) * 9)) 9 (y8.2.2.2.2.2.1.2.2.2.2.2.2.2.2.2.1 - (if (i64 (((y8.2.2.2.2.2.1.2.2.2.2.2.2.2.2.2.1 : Nat) : Int) - 1)) < y9.1 then (i64 (((y8.2.2.2.2.2.1.2.2.2.2.2.2.2.2.2.1 : Nat) : Int) - 1)) else y9.1).toNat)), y8.2.2.2.2.2.1.2.2.2.2.2.2.2.2.2.2))].length) * 248 <= zd then (kn ((y8.2.1 + [(zl (e10.1, e10.2.1, e10.2.2.1, e10.2.2.2.1, e10.2.2.2.2.1, e10.2.2.2.2.2.1, e10.2.2.2.2.2.2.1, e10.2.2.2.2.2.2.2.1, e10.2.2.2.2.2.2.2.2.1, (zp ((ZF (0 + (if (i64 (((y8.2.2.2.2.2.1.2.2.2.2.2.2.2.2.2.1 : Nat) : Int) - 1)) < y9.1 then (i64 (((y8.2.2.2.2.2.1.2.2.2.2.2.2.2.2.2.1 : Nat) : Int) - 1)) else y9.1).toNat) 9 y8.2.2.2.2.2.2.1).take ((y8.2.2.2.2.2.1.2.2.2.2.2.2.2.2.2.1 - (if (i64 (((y8.2.2.2.2.2.1.2.2.2.2.2.2.2.2.2.1 : Nat) : Int) - 1)) < y9.1 then (i64 (((y8.2.2.2.2.2.1.2.2.2.2.2.2.2.2.2.1 : Nat) : Int) - 1)) else y9.1).toNat) * 9)) 9 (y8.2.2.2.2.2.1.2.2.2.2.2.2.2.2.2.1 - (if (i64 (((y8.2.2.2.2.2.1.2.2.2.2.2.2.2.2.2.1 : Nat) : Int) - 1)) < y9.1 then (i64 (((y8.2.2.2.2.2.1.2.2.2.2.2.2.2.2.2.1 : Nat) : Int) - 1)) else y9.1).toNat)), y8.2.2.2.2.2.1.2.2.2.2.2.2.2.2.2.2))].length), y8.1, (i64 (y8.2.2.1 + 1)), y9.2.1, y9.2.2, ((y8.2.2.2.2.2.2.2.take (y8.2.1 * 25) ++ [(zl (e10.1, e10.2.1, e10.2.2.1, e10.2.2.2.1, e10.2.2.2.2.1, e10.2.2.2.2.2.1, e10.2.2.2.2.2.2.1, e10.2.2.2.2.2.2.2.1, e10.2.2.2.2.2.2.2.2.1, (zp ((ZF (0 + (if (i64 (((y8.2.2.2.2.2.1.2.2.2.2.2.2.2.2.2.1 : Nat) : Int) - 1)) < y9.1 then (i64 (((y8.2.2.2.2.2.1.2.2.2.2.2.2.2.2.2.1 : Nat) : Int) - 1)) else y9.1).toNat) 9 y8.2.2.2.2.2.2.1).take ((y8.2.2.2.2.2.1.2.2.2.2.2.2.2.2.2.1 - (if (i64 (((y8.2.2.2.2.2.1.2.2.2.2.2.2.2.2.2.1 : Nat) : Int) - 1)) < y9.1 then (i64 (((y8.2.2.2.2.2.1.2.2.2.2.2.2.2.2.2.1 : Nat) : Int) - 1)) else y9.1).toNat) * 9)) 9 (y8.2.2.2.2.2.1.2.2.2.2.2.2.2.2.2.1 - (if (i64 (((y8.2.2.2.2.2.1.2.2.2.2.2.2.2.2.2.1 : Nat) : Int) - 1)) < y9.1 then (i64 (((y8.2.2.2.2.2.1.2.2.2.2.2.2.2.2.2.1 : Nat) : Int) - 1)) else y9.1).toNat)), y8.2.2.2.2.2.1.2.2.2.2.2.2.2.2.2.2))].flatten).map dat0))) else none) else none) | none => none) else none) else none) | none => none) | none => none) | none => none)) | none => none) | false => (ke (u5.1, u5.2.2.2.1, u5.2.2.2.2.1, (u5.2.2.2.2.2.map dat0))))
abbrev zq5 (N : Nat) (x : Nat × Int × Int × qL × Int × qA) : Option ((Nat × qL × Int × qA)) := (ZX N).L N x
def zsO (N : Nat) : FSpec where
 X := Int × qL × Int
 Y := qL × qL × Int
 ad := .mk [.ptr 0 0, .int .i64] [.cells [.lst 1, .int .i64]] rfl
 bsh := [[some 1, none]]
 S := ⟨[[some 2000025]], [[some 1, none]], [], [], []⟩
 ret := λ y => ⟨(AV.list 25 y.1 (some 2560000000)), [[(AV.list 1 y.2.1 none), (AV.v (.int .i64 y.2.2))]], none, [], [2560000000], [], none⟩
 t := λ x α k => (match zq5 N (0, x.1, 0, x.2.1, x.2.2, ([] : List AV)) with | some y11 => (if y11.1 * 25 <= y11.2.2.2.length then (k ((zp (y11.2.2.2.take (y11.1 * 25)) 25 y11.1), y11.2.1, y11.2.2.1)) else none) | none => none)
abbrev zfH (N : Nat) (x : Int × qL × Int) : Option (qL × qL × Int) := (zsO N).d x
def zln (N : Nat) : List (Nat × LSpec) := [(5, ZX N), (18, ZR N)]
def zll : Code := Tryz.f27.body.getD .skip
theorem zdy (N : Nat) : zP qP zbS N (zln N) 18 (zb 18 zll) :=
 zy (zr qP [19, 84]) zf (zsN N) (l := []) an (ZR N)
theorem zlm (N : Nat) : zP qP zbS N (zln N) 5 (zb 5 zll) :=
 zy (zr qP [19, 84]) zf (zsN N) (l := [(18, zb 18 zll)]) (al (zdy N) an) (ZX N)
def zwV (N : Nat) : Ent qP := zG (zr qP [19, 84]) zf (zsN N) 27 Tryz.f27 Tryz.func27 zbS N (zln N) (l := [(5, zb 5 zll), (18, zb 18 zll)]) (al (zlm N) (al (zdy N) an)) (zsO N)
def zwy : Nat -> Keep × Keep := anL []
def zAS (N : Nat) : List (Ent qP) := [zfF N]
def zfG (N : Nat) : FSpec where
 X := qL × qL × Int
 Y := ByteArray × qL × Int
 ad := .mk [.ptr 0 0, .lst 1] [.cells [.lst 1, .int .i64]] rfl
 bsh := [[some 1, none]]
 S := ⟨[[none]], [[some 1, none]], [], [], []⟩
 ret := λ y => ⟨(AV.v (.string y.1)), [[(AV.list 1 y.2.1 none), (AV.v (.int .i64 y.2.2))]], none, [], [], [], none⟩
 t := λ x α k => (match Za N ((x.1.length : Int), x.2) with | some y1 => (if 0 <= y1.1 then (match x.1[y1.1.toNat]? with | some c2 => (match c2[0]? with | some x3 => (match x3 with | .v (.string s4) => (k (s4, y1.2)) | _ => none) | none => none) | none => none) else none) | none => none)
abbrev zat (N : Nat) (x : qL × qL × Int) : Option (ByteArray × qL × Int) := (zfG N).d x
def zwz (N : Nat) : Ent qP := zG (zc qP) zf (zAS N) 13 Tryz.f13 Tryz.func13 zwy N [] (l := []) an (zfG N)
def zhZ : Nat -> Keep × Keep := anL [(6, ⟨[0, 1, 4, 6, 7, 8], [], [0, 4, 6], [], [((4, 0), 1)], [], [], [], false, none, [((6, 0), 1)]⟩, ⟨[4, 6, 7], [], [0, 4, 6], [], [((4, 0), 1)], [], [], [], false, none, [((6, 0), 1)]⟩)]
def zwj (N : Nat) : List (Ent qP) := [zfF N, zwV N, zwz N, zAX N, zAZ N, zA1 N, zA3 N, zxc N]
def zdq (N : Nat) : LSpec where
 X := Int × Int × Int × qL × Int × qL × qL
 Y := (Int × qL × Int × qL × qL)
 dt := .mk 111 1 (zhZ 6).1.toks [(0, .ptr 0 0), (1, .int .i64), (4, .ptr 4 0), (6, .ptr 6 0), (7, .int .i64), (8, .int .i64)] [(0, .cells [.lst 1, .int .i64]), (4, .cells [.tok 1 6401048576]), (6, .cells [.lst 1])] rfl
 od := .mk 111 1 (zhZ 6).2.toks [⟨.exit 0, [(4, .ptr 4 0), (6, .ptr 6 0), (7, .int .i64)], [(0, .cells [.lst 1, .int .i64]), (4, .cells [.tok 1 6401048576]), (6, .cells [.lst 1])], none⟩] rfl
 b := λ u6 α kn ke => (match (decide (u6.2.2.1 < u6.1)) with | true => (match Za N (50, u6.2.2.2.1, u6.2.2.2.2.1) with | some y19 => (match Za N ((if (u6.2.2.2.2.2.2.length : Int) > 1 then (u6.2.2.2.2.2.2.length : Int) else 1), y19.2) with | some y20 => (match Za N (8, y20.2) with | some y21 => (match (y21.1 == 0) with | true => (match zfH N (4, y21.2) with | some y22 => (match (decide ((y22.1.length : Int) > 0)) with | true => (match zat N ([[(AV.v (.string (⟨#[97, 110, 110]⟩ : ByteArray)))], [(AV.v (.string (⟨#[98, 111, 98]⟩ : ByteArray)))]], y22.2) with | some y23 => (match Za N ((y22.1.length : Int), y23.2) with | some y24 => (if 0 <= y24.1 then (match y22.1[y24.1.toNat]? with | some c25 => (match zeE c25 with | some e26 => (match zwG N (u6.2.2.2.2.2.2, y20.1, y23.1, e26, (i64 (u6.2.1 + y19.1))) with | some y27 => (match (y27.2 == 0) with | true => (kn (u6.1, (i64 (u6.2.1 + y19.1)), (i64 (u6.2.2.1 + 1)), y24.2.1, y24.2.2, u6.2.2.2.2.2.1, y27.1)) | false => (kn (u6.1, (i64 (u6.2.1 + y19.1)), (i64 (u6.2.2.1 + 1)), y24.2.1, y24.2.2, u6.2.2.2.2.2))) | none => none) | none => none) | none => none) else none) | none => none) | none => none) | false => (match (0 == 0) with | true => (kn (u6.1, (i64 (u6.2.1 + y19.1)), (i64 (u6.2.2.1 + 1)), y22.2.1, y22.2.2, u6.2.2.2.2.2)) | false => (kn (u6.1, (i64 (u6.2.1 + y19.1)), (i64 (u6.2.2.1 + 1)), y22.2.1, y22.2.2, u6.2.2.2.2.2)))) | none => none) | false => (match (y21.1 == 1) with | true => (match zat N ([[(AV.v (.string (⟨#[97, 110, 110]⟩ : ByteArray)))], [(AV.v (.string (⟨#[98, 111, 98]⟩ : ByteArray)))]], y21.2) with | some y28 => (match zwJ N (u6.2.2.2.2.2.2, y20.1, y28.1, (i64 (u6.2.1 + y19.1))) with | some y29 => (match (y29.2 == 0) with | true => (kn (u6.1, (i64 (u6.2.1 + y19.1)), (i64 (u6.2.2.1 + 1)), y28.2.1, y28.2.2, u6.2.2.2.2.2.1, y29.1)) | false => (kn (u6.1, (i64 (u6.2.1 + y19.1)), (i64 (u6.2.2.1 + 1)), y28.2.1, y28.2.2, u6.2.2.2.2.2))) | none => none) | none => none) | false => (match (y21.1 == 2) with | true => (match Za N ((if (u6.2.2.2.2.2.2.length : Int) > 1 then (u6.2.2.2.2.2.2.length : Int) else 1), y21.2) with | some y30 => (match zat N ([[(AV.v (.string (⟨#[97, 110, 110]⟩ : ByteArray)))], [(AV.v (.string (⟨#[98, 111, 98]⟩ : ByteArray)))]], y30.2) with | some y31 => (match zwM N (u6.2.2.2.2.2.2, y20.1, y30.1, y31.1, (i64 (u6.2.1 + y19.1))) with | some y32 => (match (y32.2 == 0) with | true => (kn (u6.1, (i64 (u6.2.1 + y19.1)), (i64 (u6.2.2.1 + 1)), y31.2.1, y31.2.2, u6.2.2.2.2.2.1, y32.1)) | false => (kn (u6.1, (i64 (u6.2.1 + y19.1)), (i64 (u6.2.2.1 + 1)), y31.2.1, y31.2.2, u6.2.2.2.2.2))) | none => none) | none => none) | none => none) | false => (match (y21.1 == 3) with | true => (match zat N ([[(AV.v (.string (⟨#[97, 110, 110]⟩ : ByteArray)))], [(AV.v (.string (⟨#[98, 111, 98]⟩ : ByteArray)))]], y21.2) with | some y33 => (match zwP N (u6.2.2.2.2.2.2, y20.1, y33.1, (i64 (u6.2.1 + y19.1))) with | some y34 => (match (y34.2 == 0) with | true => (kn (u6.1, (i64 (u6.2.1 + y19.1)), (i64 (u6.2.2.1 + 1)), y33.2.1, y33.2.2, u6.2.2.2.2.2.1, y34.1)) | false => (kn (u6.1, (i64 (u6.2.1 + y19.1)), (i64 (u6.2.2.1 + 1)), y33.2.1, y33.2.2, u6.2.2.2.2.2))) | none => none) | none => none) | false => (match zfH N (4, y21.2) with | some y35 => (match zbW N (u6.2.2.2.2.2.2, y35.1, (i64 (u6.2.1 + y19.1))) with | some y36 => (match (y36.2.2 == 0) with | true => (kn (u6.1, (i64 (u6.2.1 + y19.1)), (i64 (u6.2.2.1 + 1)), y35.2.1, y35.2.2, u6.2.2.2.2.2.1, y36.1)) | false => (kn (u6.1, (i64 (u6.2.1 + y19.1)), (i64 (u6.2.2.1 + 1)), y35.2.1, y35.2.2, u6.2.2.2.2.2))) | none => none) | none => none))))) | none => none) | none => none) | none => none) | false => (ke (u6.2.1, u6.2.2.2)))
abbrev zqV (N : Nat) (x : Int × Int × Int × qL × Int × qL × qL) : Option ((Int × qL × Int × qL × qL)) := (zdq N).L N x
def zsB (N : Nat) : FSpec where
 X := Int × qL × Int
 Y := qL × Int × qL × Int
 ad := .mk [.ptr 0 0, .int .i64] [.cells [.lst 1, .int .i64]] rfl
 bsh := [[some 1, none]]
 S := ⟨[[some 1], [none]], [[some 1, none]], [], [], []⟩
 ret := λ y => ⟨(AV.tup [(AV.agg [(AV.list 1 y.1 none)]), (AV.v (.int .i64 y.2.1))]), [[(AV.list 1 y.2.2.1 none), (AV.v (.int .i64 y.2.2.2))]], none, [], [], [], none⟩
 t := λ x α k => (match zqV N (x.1, 100, 0, x.2.1, x.2.2, ([] : qL), ([] : qL)) with | some y37 => (k (y37.2.2.2.2, y37.1, y37.2.1, y37.2.2.1)) | none => none)
abbrev zsA (N : Nat) (x : Int × qL × Int) : Option (qL × Int × qL × Int) := (zsB N).d x
def zqW (N : Nat) : List (Nat × LSpec) := [(6, zdq N)]
def zwi : Code := Tryz.f10.body.getD .skip
theorem zk0 (N : Nat) : zP qP zhZ N (zqW N) 6 (zb 6 zwi) :=
 zy (zc qP) zf (zwj N) (l := []) an (zdq N)
def zAP (N : Nat) : Ent qP := zG (zc qP) zf (zwj N) 10 Tryz.f10 Tryz.func10 zhZ N (zqW N) (l := [(6, zb 6 zwi)]) (al (zk0 N) an) (zsB N)
abbrev zCq : List Ck := [.sl 1]
abbrev zCr : Type := qL × Unit
def zyP (c : List AV) : Option zCr := dec zCq c
def zyO (e : zCr) : List AV := enc zCq e
theorem zpe (e : zCr) : zyP (zyO e) = some e := zbD (ks := zCq) e rfl
end
end
section
noncomputable section
open Go.RowKit
set_option maxRecDepth 4000
set_option maxHeartbeats 4000000
def zh3 : Nat -> Keep × Keep := anL [(8, ⟨[5], [], [], [(0, 25), (1, 25)], [], [], [], [], false, none, []⟩, qK [4] [] [])]
def zwX (N : Nat) : List (Ent qP) := [zxG N]
def zdA (N : Nat) : LSpec where
 X := qL × qL × Int
 Y := (Bool) ⊕ (Unit)
 dt := .mk 42 0 (zh3 8).1.toks [(0, .lst 25), (1, .lst 25), (5, .int .i64)] [] rfl
 od := .mk 42 0 (zh3 8).2.toks [⟨.ret, [(4, .bool)], [], none⟩, ⟨.exit 0, [], [], none⟩] rfl
 b := λ u8 α kn ke => (match (decide (u8.2.2 < (u8.1.length : Int))) with | true => (if 0 <= u8.2.2 then (match u8.1[u8.2.2.toNat]? with | some c1 => (match jk (c1.drop 0) with | some e2 => (if 0 <= u8.2.2 then (match u8.2.1[u8.2.2.toNat]? with | some c3 => (match jk (c3.drop 0) with | some e4 => (match (!(((e2.1 == e4.1) && ((e2.2.1 == e4.2.1) && ((e2.2.2.1 == e4.2.2.1) && ((e2.2.2.2.1 == e4.2.2.2.1) && true)))) && ((e2.2.2.2.2.1 == e4.2.2.2.2.1) && ((e2.2.2.2.2.2.1 == e4.2.2.2.2.2.1) && ((e2.2.2.2.2.2.2.1 == e4.2.2.2.2.2.2.1) && ((e2.2.2.2.2.2.2.2.1 == e4.2.2.2.2.2.2.2.1) && ((e2.2.2.2.2.2.2.2.2.1 == e4.2.2.2.2.2.2.2.2.1) && true))))))) with | true => (ke (.inl false)) | false => (if 0 <= u8.2.2 then (match u8.1[u8.2.2.toNat]? with | some c5 => (match zCt (c5.drop 9) with | some e6 => (if 0 <= u8.2.2 then (match u8.2.1[u8.2.2.toNat]? with | some c7 => (match zCt (c7.drop 9) with | some e8 => (match zo1 N (e6, e8) with | some y9 => (match (!y9) with | true => (ke (.inl false)) | false => (kn (u8.1, u8.2.1, (i64 (u8.2.2 + 1))))) | none => none) | none => none) | none => none) else none) | none => none) | none => none) else none)) | none => none) | none => none) else none) | none => none) | none => none) else none) | false => (ke (.inr ())))
abbrev zq7 (N : Nat) (x : qL × qL × Int) : Option ((Bool) ⊕ (Unit)) := (zdA N).L N x
def zsS (N : Nat) : FSpec where
 X := qL × qL
 Y := Bool
 ad := .mk [.lst 25, .lst 25] [] rfl
 ret := λ y => qR (AV.v (.bool y))
 t := λ x α k => (match ((x.1.length : Int) != (x.2.length : Int)) with | true => (k false) | false => (match zq7 N (x.1, x.2, 0) with | some y10 => (match y10 with | .inl z11 => (k z11) | .inr z12 => (k true)) | none => none))
abbrev zsR (N : Nat) (x : qL × qL) : Option (Bool) := (zsS N).d x
def zq8 (N : Nat) : List (Nat × LSpec) := [(8, zdA N)]
def zwW : Code := Tryz.f29.body.getD .skip
theorem zlt (N : Nat) : zP qP zh3 N (zq8 N) 8 (zb 8 zwW) :=
 zy (zc qP) zf (zwX N) (l := []) an (zdA N)
def zA7 (N : Nat) : Ent qP := zG (zc qP) zf (zwX N) 29 Tryz.f29 Tryz.func29 zh3 N (zq8 N) (l := [(8, zb 8 zwW)]) (al (zlt N) an) (zsS N)
def zxP : Nat -> Keep × Keep := anL []
def zBI (N : Nat) : List (Ent qP) := [zti N]
def zty (N : Nat) : FSpec where
 X := RT7 × RT7
 Y := Bool
 ad := .mk [.agg RK7, .agg RK7] [] rfl
 ret := λ y => qR (AV.v (.bool y))
 t := λ x α k => (match (x.1.1 == x.2.1) with | true => (match (x.1.2.1 == x.2.2.1) with | true => (match (x.1.2.2.1.toList == x.2.2.2.1.toList) with | true => (match (x.1.2.2.2.1 == x.2.2.2.2.1) with | true => (match zfO N ((zm x.1), (zm x.2)) with | some y1 => (k y1) | none => none) | false => (k false)) | false => (k false)) | false => (k false)) | false => (k false))
abbrev ztx (N : Nat) (x : RT7 × RT7) : Option (Bool) := (zty N).d x
def zBH (N : Nat) : Ent qP := zG (zc qP) zf (zBI N) 64 Tryz.f64 Tryz.func64 zxP N [] (l := []) an (zty N)
def zij : Nat -> Keep × Keep := anL [(8, ⟨[2, 16, 17], [], [], [(1, 29), (15, 29)], [], [], [], [], false, none, []⟩, qK [6] [] [])]
def zxO (N : Nat) : List (Ent qP) := [zBH N]
def zdR (N : Nat) : LSpec where
 X := qL × qL × Int × Int
 Y := (Bool) ⊕ (Unit)
 dt := .mk 32 0 (zij 8).1.toks [(1, .lst 29), (15, .lst 29), (2, .fn0 64), (16, .int .i64), (17, .int .i64)] [] rfl
 od := .mk 32 0 (zij 8).2.toks [⟨.ret, [(6, .bool)], [], none⟩, ⟨.exit 0, [], [], none⟩] rfl
 b := λ u8 α kn ke => (match (decide (u8.2.2.2 < u8.2.2.1)) with | true => (if 0 <= u8.2.2.2 then (match u8.2.1[u8.2.2.2.toNat]? with | some c1 => (match zfw c1 with | some e2 => (if 0 <= u8.2.2.2 then (match u8.1[u8.2.2.2.toNat]? with | some c3 => (match zfw c3 with | some e4 => (match ztx N (e2, e4) with | some y5 => (match (!y5) with | true => (ke (.inl false)) | false => (kn (u8.1, u8.2.1, u8.2.2.1, (i64 (u8.2.2.2 + 1))))) | none => none) | none => none) | none => none) else none) | none => none) | none => none) else none) | false => (ke (.inr ())))
abbrev zrr (N : Nat) (x : qL × qL × Int × Int) : Option ((Bool) ⊕ (Unit)) := (zdR N).L N x
def ztw (N : Nat) : FSpec where
 X := qL × qL
 Y := Bool
 ad := .mk [.lst 29, .lst 29, .fn0 64] [] rfl
 ret := λ y => qR (AV.v (.bool y))
 t := λ x α k => (match ((x.1.length : Int) != (x.2.length : Int)) with | true => (k false) | false => (match zrr N (x.2, x.1, (x.1.length : Int), 0) with | some y6 => (match y6 with | .inl z7 => (k z7) | .inr z8 => (k true)) | none => none))
abbrev ztv (N : Nat) (x : qL × qL) : Option (Bool) := (ztw N).d x
def zrs (N : Nat) : List (Nat × LSpec) := [(8, zdR N)]
def zxN : Code := Tryz.f63.body.getD .skip
theorem zmk (N : Nat) : zP qP zij N (zrs N) 8 (zb 8 zxN) :=
 zy (zc qP) zf (zxO N) (l := []) an (zdR N)
def zBG (N : Nat) : Ent qP := zG (zc qP) zf (zxO N) 63 Tryz.f63 Tryz.func63 zij N (zrs N) (l := [(8, zb 8 zxN)]) (al (zmk N) an) (ztw N)
def zxM : Nat -> Keep × Keep := anL []
def zBF (N : Nat) : List (Ent qP) := [zBG N]
def ztu (N : Nat) : FSpec where
 X := qL × qL
 Y := Bool
 ad := .mk [.ags [.sl 29], .ags [.sl 29]] [] rfl
 ret := λ y => qR (AV.v (.bool y))
 t := λ x α k => (match ztv N x with | some y1 => (k y1) | none => none)
abbrev ztt (N : Nat) (x : qL × qL) : Option (Bool) := (ztu N).d x
def zBE (N : Nat) : Ent qP := zG (zc qP) zf (zBF N) 62 Tryz.f62 Tryz.func62 zxM N [] (l := []) an (ztu N)
def zii : Nat -> Keep × Keep := anL [(8, ⟨[2, 16, 17], [], [], [(1, 1), (15, 1)], [], [], [], [], false, none, []⟩, qK [6] [] [])]
def zxL (N : Nat) : List (Ent qP) := [zBE N]
def zdQ (N : Nat) : LSpec where
 X := qL × qL × Int × Int
 Y := (Bool) ⊕ (Unit)
 dt := .mk 32 0 (zii 8).1.toks [(1, .lst 1), (15, .lst 1), (2, .fn0 62), (16, .int .i64), (17, .int .i64)] [] rfl
 od := .mk 32 0 (zii 8).2.toks [⟨.ret, [(6, .bool)], [], none⟩, ⟨.exit 0, [], [], none⟩] rfl
 b := λ u8 α kn ke => (match (decide (u8.2.2.2 < u8.2.2.1)) with | true => (if 0 <= u8.2.2.2 then (match u8.2.1[u8.2.2.2.toNat]? with | some c1 => (match zbr c1 with | some e2 => (if 0 <= u8.2.2.2 then (match u8.1[u8.2.2.2.toNat]? with | some c3 => (match zbr c3 with | some e4 => (match ztt N (e2.1, e4.1) with | some y5 => (match (!y5) with | true => (ke (.inl false)) | false => (kn (u8.1, u8.2.1, u8.2.2.1, (i64 (u8.2.2.2 + 1))))) | none => none) | none => none) | none => none) else none) | none => none) | none => none) else none) | false => (ke (.inr ())))
abbrev zrp (N : Nat) (x : qL × qL × Int × Int) : Option ((Bool) ⊕ (Unit)) := (zdQ N).L N x
def zts (N : Nat) : FSpec where
 X := qL × qL
 Y := Bool
 ad := .mk [.lst 1, .lst 1, .fn0 62] [] rfl
 ret := λ y => qR (AV.v (.bool y))
 t := λ x α k => (match ((x.1.length : Int) != (x.2.length : Int)) with | true => (k false) | false => (match zrp N (x.2, x.1, (x.1.length : Int), 0) with | some y6 => (match y6 with | .inl z7 => (k z7) | .inr z8 => (k true)) | none => none))
abbrev ztr (N : Nat) (x : qL × qL) : Option (Bool) := (zts N).d x
def zrq (N : Nat) : List (Nat × LSpec) := [(8, zdQ N)]
def zxK : Code := Tryz.f61.body.getD .skip
theorem zmj (N : Nat) : zP qP zii N (zrq N) 8 (zb 8 zxK) :=
 zy (zc qP) zf (zxL N) (l := []) an (zdQ N)
def zBD (N : Nat) : Ent qP := zG (zc qP) zf (zxL N) 61 Tryz.f61 Tryz.func61 zii N (zrq N) (l := [(8, zb 8 zxK)]) (al (zmj N) an) (zts N)
def zw4 : Nat -> Keep × Keep := anL []
def zBa (N : Nat) : List (Ent qP) := [zBD N]
def zsV (N : Nat) : FSpec where
 X := qL × qL
 Y := Bool
 ad := .mk [.ags [.sl 1], .ags [.sl 1]] [] rfl
 ret := λ y => qR (AV.v (.bool y))
 t := λ x α k => (match ztr N x with | some y1 => (k y1) | none => none)
abbrev zsU (N : Nat) (x : qL × qL) : Option (Bool) := (zsV N).d x
def zA9 (N : Nat) : Ent qP := zG (zc qP) zf (zBa N) 33 Tryz.f33 Tryz.func33 zw4 N [] (l := []) an (zsV N)
def zbV : Nat -> Keep × Keep := anF [(5, ⟨[1, 2, 6], [], [2], [], [], [(5, 25)], [], [], false, none, []⟩, ⟨[], [], [], [], [], [(5, 25)], [], [], false, none, []⟩), (15, ⟨[1, 2, 5, 6, 7, 8], [], [2, 1000005], [], [], [], [], [1000005], false, none, []⟩, ⟨[1, 2, 5, 6, 7], [], [2, 1000005], [], [], [], [], [1000005], false, none, []⟩)] [(100013, ([5], []))]
def zsW (N : Nat) : List (Ent qP) := [zlx N, zxR N]
def zaC (N : Nat) : LSpec where
 X := Int × Nat × Int × Int × Int × qL × qA
 Y := (Int × Nat × Int × Int × qL × qA)
 dt := .mk 72 0 (zbV 15).1.toks [(1, .int .i64), (2, .ptr 2 0), (5, .vs0 1000005 25), (6, .int .i64), (7, .int .i64), (8, .int .i64)] [(2, .cells [.lst 1]), (1000005, .tt)] rfl
 od := .mk 72 0 (zbV 15).2.toks [⟨.exit 2, [(1, .int .i64), (2, .ptr 2 0), (5, .vs0 1000005 25), (6, .int .i64), (7, .int .i64)], [(2, .cells [.lst 1]), (1000005, .tt)], none⟩] rfl
 b := λ u15 α kn ke => (if 0 <= u15.2.2.1 then (match u15.2.2.2.2.2.1[u15.2.2.1.toNat]? with | some c12 => (match (c12.drop 0)[0]? with | some x13 => (match Zf 29 x13 with | some l14 => (match (decide (u15.2.2.2.2.1 < (l14.length : Int))) with | true => (if 0 <= u15.2.2.1 then (match u15.2.2.2.2.2.1[u15.2.2.1.toNat]? with | some c15 => (match (c15.drop 0)[0]? with | some x16 => (match Zf 29 x16 with | some l17 => (if 0 <= u15.2.2.2.2.1 then (match l17[u15.2.2.2.2.1.toNat]? with | some c18 => (match (c18.drop 1)[0]? with | some x19 => (match x19 with | .v (.int q21 n20) => (if q21 = .i64 then (match (decide (n20 <= u15.1)) with | true => (kn (u15.1, u15.2.1, u15.2.2.1, u15.2.2.2.2.1, (i64 (u15.2.2.2.2.1 + 1)), u15.2.2.2.2.2.1, (u15.2.2.2.2.2.2.map dat0))) | false => (kn (u15.1, u15.2.1, u15.2.2.1, u15.2.2.2.1, (i64 (u15.2.2.2.2.1 + 1)), u15.2.2.2.2.2.1, (u15.2.2.2.2.2.2.map dat0)))) else none) | _ => none) | none => none) | none => none) else none) | none => none) | none => none) | none => none) else none) | false => (ke (u15.1, u15.2.1, u15.2.2.1, u15.2.2.2.1, u15.2.2.2.2.2.1, (u15.2.2.2.2.2.2.map dat0)))) | none => none) | none => none) | none => none) else none)
abbrev zlA (N : Nat) (x : Int × Nat × Int × Int × Int × qL × qA) : Option ((Int × Nat × Int × Int × qL × qA)) := (zaC N).L N x
def J8 (N : Nat) : LSpec where
 X := Nat × Int × Int × qL × qA
 Y := (Nat × qA)
 dt := .mk 72 0 (zbV 5).1.toks [(5, .vs0 1000005 25), (1, .int .i64), (2, .ptr 2 0), (6, .int .i64)] [(2, .cells [.lst 1]), (1000005, .tt)] rfl
 od := .mk 72 0 (zbV 5).2.toks [⟨.exit 0, [(5, .vs0 1000005 25)], [(1000005, .tt)], none⟩] rfl
 b := λ u5 α kn ke => (match (decide (u5.2.2.1 < (u5.2.2.2.1.length : Int))) with | true => (match zfK N u5.2.2.2.1 with | some y1 => (match y1 with | true => (match zlA N (u5.2.1, u5.1, u5.2.2.1, (-1), 0, u5.2.2.2.1, (u5.2.2.2.2.map dat0)) with | some y22 => (match (decide (y22.2.2.2.1 >= 0)) with | true => (if 0 <= y22.2.2.1 then (match y22.2.2.2.2.1[y22.2.2.1.toNat]? with | some c23 => (match (c23.drop 0)[0]? with | some x24 => (match Zf 29 x24 with | some l25 => (if 0 <= y22.2.2.2.1 then (match l25[y22.2.2.2.1.toNat]? with | some c26 => (match zfw c26 with | some e27 => (match zo4 N e27 with | some y28 => (match y28 with | true => (if 0 <= y22.2.2.1 then (match y22.2.2.2.2.1[y22.2.2.1.toNat]? with | some c29 => (match (c29.drop 0)[0]? with | some x30 => (match Zf 29 x30 with | some l31 => (if 0 <= y22.2.2.2.1 then (match l31[y22.2.2.2.1.toNat]? with | some c32 => (match zeE (c32.drop 4) with | some e33 => (if y22.2.1 * 25 <= y22.2.2.2.2.2.length /\ (y22.2.1 + [(zl e33)].length) * 248 <= zd then (kn ((y22.2.1 + [(zl e33)].length), y22.1, (i64 (y22.2.2.1 + 1)), y22.2.2.2.2.1, ((y22.2.2.2.2.2.take (y22.2.1 * 25) ++ [(zl e33)].flatten).map dat0))) else none) | none => none) | none => none) else none) | none => none) | none => none) | none => none) else none) | false => (kn (y22.2.1, y22.1, (i64 (y22.2.2.1 + 1)), y22.2.2.2.2.1, (y22.2.2.2.2.2.map dat0)))) | none => none) | none => none) | none => none) else none) | none => none) | none => none) | none => none) else none) | false => (kn (y22.2.1, y22.1, (i64 (y22.2.2.1 + 1)), y22.2.2.2.2.1, (y22.2.2.2.2.2.map dat0)))) | none => none) | false => (ke (u5.1, (u5.2.2.2.2.map dat0)))) | none => none) | false => (ke (u5.1, (u5.2.2.2.2.map dat0))))
abbrev zlB (N : Nat) (x : Nat × Int × Int × qL × qA) : Option ((Nat × qA)) := (J8 N).L N x
def zoN (N : Nat) : FSpec where
 X := qL × Int
 Y := qL
 ad := .mk [.ags [.sl 1], .int .i64] [] rfl
 S := ⟨[[some 2000025]], [], [], [], []⟩
 ret := λ y => ⟨(AV.list 25 y (some 2560000000)), [], none, [], [2560000000], [], none⟩
 t := λ x α k => (match zlB N (0, x.2, 0, x.1, ([] : List AV)) with | some y34 => (if y34.1 * 25 <= y34.2.length then (k (zp (y34.2.take (y34.1 * 25)) 25 y34.1)) else none) | none => none)
abbrev zjF (N : Nat) (x : qL × Int) : Option (qL) := (zoN N).d x
def zlD (N : Nat) : List (Nat × LSpec) := [(5, J8 N), (15, zaC N)]
def zlz : Code := Tryz.f34.body.getD .skip
theorem zdD (N : Nat) : zP qP zbV N (zlD N) 15 (zb 15 zlz) :=
 zy (zr qP [70]) zf (zsW N) (l := []) an (zaC N)
theorem zlC (N : Nat) : zP qP zbV N (zlD N) 5 (zb 5 zlz) :=
 zy (zr qP [70]) zf (zsW N) (l := [(15, zb 15 zlz)]) (al (zdD N) an) (J8 N)
def zBb (N : Nat) : Ent qP := zG (zr qP [70]) zf (zsW N) 34 Tryz.f34 Tryz.func34 zbV N (zlD N) (l := [(5, zb 5 zlz), (15, zb 15 zlz)]) (al (zlC N) (al (zdD N) an)) (zoN N)
def zh7 : Nat -> Keep × Keep := anL [(9, ⟨[1, 13, 14], [(5, 1)], [], [(12, 1)], [], [], [], [], false, none, []⟩, qK [] [(5, 1)] [])]
def zw9 (N : Nat) : List (Ent qP) := [zlq N, zmb N]
def zdF (N : Nat) : LSpec where
 X := qL × qL × Int × Int × Int
 Y := (qL)
 dt := .mk 30 0 (zh7 9).1.toks [(5, .tok 1 1280000320), (12, .lst 1), (1, .int .i64), (13, .int .i64), (14, .int .i64)] [] rfl
 od := .mk 30 0 (zh7 9).2.toks [⟨.exit 0, [(5, .tok 1 1280000320)], [], none⟩] rfl
 b := λ u9 α kn ke => (match (decide (u9.2.2.2.2 < u9.2.2.2.1)) with | true => (if 0 <= u9.2.2.2.2 then (match u9.2.1[u9.2.2.2.2.toNat]? with | some c2 => (match zbr c2 with | some e3 => (match zjR N e3.1 with | some y4 => (match (decide (y4.2.1 > u9.2.2.1)) with | true => (if (u9.1.length + [[(AV.v (.int .i64 u9.2.2.2.2))]].length) * 8 <= zd then (kn ((u9.1 ++ [[(AV.v (.int .i64 u9.2.2.2.2))]]), u9.2.1, u9.2.2.1, u9.2.2.2.1, (i64 (u9.2.2.2.2 + 1)))) else none) | false => (kn (u9.1, u9.2.1, u9.2.2.1, u9.2.2.2.1, (i64 (u9.2.2.2.2 + 1))))) | none => none) | none => none) | none => none) else none) | false => (ke u9.1))
abbrev zre (N : Nat) (x : qL × qL × Int × Int × Int) : Option ((qL)) := (zdF N).L N x
def zoP (N : Nat) : FSpec where
 X := qL × Int
 Y := qL
 ad := .mk [.ags [.sl 1], .int .i64] [] rfl
 S := ⟨[[some 2000001]], [], [], [], []⟩
 ret := λ y => ⟨(AV.list 1 y (some 2560000000)), [], none, [], [2560000000], [], none⟩
 t := λ x α k => (match zgP N x.1 with | some y1 => (match (!y1) with | true => (k ([] : qL)) | false => (match zre N (([] : qL), x.1, x.2, (x.1.length : Int), 0) with | some y5 => (k y5) | none => none)) | none => none)
abbrev zoO (N : Nat) (x : qL × Int) : Option (qL) := (zoP N).d x
def zrf (N : Nat) : List (Nat × LSpec) := [(9, zdF N)]
def zw8 : Code := Tryz.f36.body.getD .skip
theorem zlF (N : Nat) : zP qP zh7 N (zrf N) 9 (zb 9 zw8) :=
 zy (zc qP) zf (zw9 N) (l := []) an (zdF N)
def zBc (N : Nat) : Ent qP := zG (zc qP) zf (zw9 N) 36 Tryz.f36 Tryz.func36 zh7 N (zrf N) (l := [(9, zb 9 zw8)]) (al (zlF N) an) (zoP N)
def zh8 : Nat -> Keep × Keep := anL [(5, qK [1, 2, 6] [(5, 1)] [2], qK [] [(5, 1)] [])]
def zxb (N : Nat) : List (Ent qP) := [zlx N, zjS N]
def J9 (N : Nat) : LSpec where
 X := qL × Int × Int × qL
 Y := (qL)
 dt := .mk 32 0 (zh8 5).1.toks [(5, .tok 1 1280000320), (1, .int .i64), (2, .ptr 2 0), (6, .int .i64)] [(2, .cells [.lst 1])] rfl
 od := .mk 32 0 (zh8 5).2.toks [⟨.exit 0, [(5, .tok 1 1280000320)], [], none⟩] rfl
 b := λ u5 α kn ke => (match (decide (u5.2.2.1 < (u5.2.2.2.length : Int))) with | true => (match zfK N u5.2.2.2 with | some y1 => (match y1 with | true => (if 0 <= u5.2.2.1 then (match u5.2.2.2[u5.2.2.1.toNat]? with | some c2 => (match zbr c2 with | some e3 => (match zdd N e3.1 with | some y4 => (match (decide (y4.2.1 > u5.2.1)) with | true => (if (u5.1.length + [[(AV.v (.int .i64 u5.2.2.1))]].length) * 8 <= zd then (kn ((u5.1 ++ [[(AV.v (.int .i64 u5.2.2.1))]]), u5.2.1, (i64 (u5.2.2.1 + 1)), u5.2.2.2)) else none) | false => (kn (u5.1, u5.2.1, (i64 (u5.2.2.1 + 1)), u5.2.2.2))) | none => none) | none => none) | none => none) else none) | false => (ke u5.1)) | none => none) | false => (ke u5.1))
abbrev zlG (N : Nat) (x : qL × Int × Int × qL) : Option ((qL)) := (J9 N).L N x
def zoR (N : Nat) : FSpec where
 X := qL × Int
 Y := qL
 ad := .mk [.ags [.sl 1], .int .i64] [] rfl
 S := ⟨[[some 2000001]], [], [], [], []⟩
 ret := λ y => ⟨(AV.list 1 y (some 2560000000)), [], none, [], [2560000000], [], none⟩
 t := λ x α k => (match zlG N (([] : qL), x.2, 0, x.1) with | some y5 => (k y5) | none => none)
abbrev zoQ (N : Nat) (x : qL × Int) : Option (qL) := (zoR N).d x
def zrg (N : Nat) : List (Nat × LSpec) := [(5, J9 N)]
def zxa : Code := Tryz.f37.body.getD .skip
theorem zlH (N : Nat) : zP qP zh8 N (zrg N) 5 (zb 5 zxa) :=
 zy (zc qP) zf (zxb N) (l := []) an (J9 N)
def zBd (N : Nat) : Ent qP := zG (zc qP) zf (zxb N) 37 Tryz.f37 Tryz.func37 zh8 N (zrg N) (l := [(5, zb 5 zxa)]) (al (zlH N) an) (zoR N)
end
end
section
theorem dF {p : Prop} [Decidable p] (h : ¬ p) : decide p = false := decide_eq_false h
theorem dT {p : Prop} [Decidable p] (h : p) : decide p = true := decide_eq_true h
theorem pS {d f : Nat} (h : d < f) : ∃ f', f = f' + 1 := ⟨f - 1, by omega⟩
def zg (xs : List Int) : List (List AV) := xs.map λ x => [I x]
theorem zW {x : Int} (h : -9223372036854775808 <= x /\ x <= 9223372036854775807) : i64 x = x := IntWalk.i64_in _ (by omega)
abbrev qC : Type := List (List RT7)
theorem ltT (a b : Nat) (h : a < b) : decide ((a : Int) < (b : Int)) = true := decide_eq_true (by omega)
theorem ltF (a b : Nat) (h : ¬ a < b) : decide ((a : Int) < (b : Int)) = false := decide_eq_false (by omega)
theorem nnI (a : Nat) : 0 <= (a : Int) := by omega
theorem Zk (k : Nat) (h : k < 1000000) : i64 ((k : Int) + 1) = ((k + 1 : Nat) : Int) := by rw [zW (by omega)]; omega
theorem zZ (xs : List Int) : (zg xs).length = xs.length := by simp [zg]
theorem jB (xs : List Int) (k : Nat) (h : k < xs.length) : (zg xs)[k]? = some [I xs[k]] := by simp [zg, h]
structure Sc (xs : List Int) (p : Int) : Prop where
 l : xs.length <= 2000
 p0 : 0 <= p
 p1 : p <= xs.length
theorem zz0 (N : Nat) {xs : List Int} {p : Int} (D : Sc xs p) : ∃ v p', zs5 N (zg xs, p) = some (v, zg xs, p') /\ Sc xs p' := by
 obtain ⟨l, p0, p1⟩ := D
 simp only [zs5, FSpec.d, zs6]
 by_cases h : p >= ((zg xs).length : Int)
 ·simp only [h, decide_true]
  exact ⟨0, p, rfl, ⟨l, p0, p1⟩⟩
 ·have h0 := h
  rw [zZ] at h0
  have h2 : p.toNat < xs.length := by omega
  have hp : i64 (p + 1) = p + 1 := zW (by omega)
  have hq : i64 (p + 1 - 1) = p := by rw [zW (by omega)]; omega
  simp only [h, decide_false, hp, hq, p0, if_true, jB xs _ h2, List.getElem?_cons_zero]
  exact ⟨_, _, rfl, ⟨l, by omega, by omega⟩⟩
theorem zzu (N : Nat) (v : Int) {n : Int} (hn : 1 <= n /\ n <= 1000000) : ∃ r, zoV N (v, n) = some r /\ 0 <= r /\ r < n := by
 simp only [zoV, FSpec.d, zs4]
 have h1 : ¬ n < 1 := by omega
 have h3 : ¬ n = 0 := by omega
 simp only [h1, decide_false, h3, if_false]
 by_cases hneg : v.tmod n < 0
 ·simp only [hneg, decide_true]
  have t1 : -n < v.tmod n := by
   have := Int.tmod_lt_of_pos (-v) (show 0 < n by omega)
   rw [Int.neg_tmod] at this
   omega
  rw [zW (by omega)]
  exact ⟨_, rfl, by omega, by omega⟩
 ·simp only [hneg, decide_false]
  have t1 := Int.tmod_lt_of_pos v (show 0 < n by omega)
  exact ⟨_, rfl, by omega, by omega⟩
theorem zar (N : Nat) {n : Int} {xs : List Int} {p : Int} (hn : 1 <= n /\ n <= 1000000) (D : Sc xs p) : ∃ v p', Za N (n, zg xs, p) = some (v, zg xs, p') /\ (0 <= v /\ v < n) /\ Sc xs p' := by
 obtain ⟨v, p', h1, h2⟩ := zz0 N D
 obtain ⟨r, h3, h4⟩ := zzu N v hn
 refine ⟨r, p', ?_, h4, h2⟩
 simp only [Za, FSpec.d, zsH]
 simp only [h1, h3]
theorem zn4 (N : Nat) (O : List Int) {xs : List Int} {p : Int} (hO : 1 <= O.length /\ O.length <= 1000) (D : Sc xs p) : ∃ v p', zjy N (zg O, zg xs, p) = some (v, zg xs, p') /\ v ∈ O /\ Sc xs p' := by
 simp only [zjy, FSpec.d, zsJ]
 obtain ⟨v, p', h1, h2, h3⟩ := zar N (n := (O.length : Int)) (by omega) D
 rw [zZ, h1]
 have h4 : v.toNat < O.length := by omega
 simp only [h2.1, if_true, jB O _ h4, List.getElem?_cons_zero]
 exact ⟨_, _, rfl, List.getElem_mem h4, h3⟩
theorem zzz (N : Nat) (xs : List Int) : zCm N (zg xs) = some (zg (xs.take 2000), 0) /\ Sc (xs.take 2000) 0 := by
 refine ⟨?_, ⟨by simp; omega, by omega, by omega⟩⟩
 simp only [zCm, FSpec.d, zCn, zZ]
 by_cases h : 2000 < (xs.length : Int)
 ·have h2 : (0 <= (2000 : Int) /\ (2000 : Int) <= xs.length) := by omega
  simp only [h, if_true, h2, and_self]
  simp [zg]
 ·have h2 : (0 <= (xs.length : Int) /\ (xs.length : Int) <= xs.length) := by omega
  simp only [h, if_false, h2, and_self, if_true]
  rw [List.take_of_length_le (by rw [zZ]; omega), List.take_of_length_le (by omega)]
section
variable {T : Type} (en : T -> List AV) (n : Nat) (hl : ∀ e, (en e).length = n)
def fl (L : List T) : List AV := (L.map en).flatten
include hl
theorem JN (L : List T) : (fl en L).length = L.length * n := by
 induction L with
 | nil => simp [fl]
 | cons a L ih =>
  show ((en a) ++ fl en L).length = _
  rw [List.length_append, ih, hl, List.length_cons, Nat.succ_mul, Nat.add_comm]
theorem zcE : ∀ (L : List T) (i j : Nat) (h : i < L.length), j <= n -> (fl en L).drop (i * n + j) = (en L[i]).drop j ++ fl en (L.drop (i + 1))
 | a :: L, 0, j, h, hj => by
  show ((en a) ++ fl en L).drop (0 * n + j) = _
  rw [Nat.zero_mul, Nat.zero_add, List.drop_append_of_le_length (by rw [hl]; exact hj)]
  rfl
 | a :: L, i + 1, j, h, hj => by
  show ((en a) ++ fl en L).drop ((i + 1) * n + j) = _
  have e : (i + 1) * n + j = (en a).length + (i * n + j) := by rw [hl, Nat.succ_mul]; omega
  rw [e, List.drop_append, List.drop_eq_nil_of_le (by omega), Nat.add_sub_cancel_left, List.nil_append, zcE L i j (by simpa using h) hj]
  rfl
theorem znu (L : List T) (i j : Nat) (h : i < L.length) (hj : j < n) : (fl en L)[i * n + j]? = (en L[i])[j]? := by
 have := congrArg (λ l : List AV => l[0]?) (zcE en n hl L i j h (Nat.le_of_lt hj))
 simp only [List.getElem?_drop, Nat.add_zero] at this
 rw [this, List.getElem?_append_left (by rw [List.length_drop, hl]; omega)]
 simp
omit hl in
theorem znt (L : List T) (a : T) : fl en L ++ en a = fl en (L ++ [a]) := by
 unfold fl
 rw [List.map_append, List.flatten_append]
 simp
theorem ze3 (L : List T) (k : Nat) (hk : k = L.length) : (fl en L).take (k * n) = fl en L := by
 rw [List.take_of_length_le]
 rw [JN en n hl, hk]
 exact Nat.le_refl _
omit hl in
theorem zr4 (hd : ∀ e, (en e).map dat0 = en e) (L : List T) : (fl en L).map dat0 = fl en L := by
 induction L with
 | nil => rfl
 | cons a L ih =>
  show ((en a) ++ fl en L).map dat0 = (en a) ++ fl en L
  rw [List.map_append, ih, hd]
theorem zec (hd : ∀ e, (en e).map dat0 = en e) : ∀ L : List T, zp (fl en L) n L.length = L.map en
 | [] => rfl
 | a :: L => by
  show ((((en a) ++ fl en L).take n).map dat0) :: zp (((en a) ++ fl en L).drop n) n L.length = en a :: L.map en
  have e1 : ((en a) ++ fl en L).take n = en a := by rw [<- hl a, List.take_left]
  have e2 : ((en a) ++ fl en L).drop n = fl en L := by rw [<- hl a, List.drop_left]
  rw [e1, e2, hd, zec hd L]
theorem Jh (hd : ∀ e, (en e).map dat0 = en e) (L : List T) (k : Nat) (hk : k = L.length) : zp ((fl en L).take (k * n)) n k = L.map en := by
 rw [ze3 en n hl L k hk, hk, zec en n hl hd L]
theorem zgd (L : List T) (i j : Nat) (h : i < L.length) (new : List AV) (b : T) (hb : splice (en L[i]) j new = en b) (hj : j + new.length <= n) : splice (fl en L) (i * n + j) new = fl en (L.set i b) := by
 have hlen : i * n + j + new.length <= (fl en L).length := by
  rw [JN en n hl]
  have : (i + 1) * n <= L.length * n := Nat.mul_le_mul_right n h
  rw [Nat.succ_mul] at this
  omega
 refine List.ext_getElem? λ k => ?_
 rw [jC new _ _ hlen]
 by_cases hn : n = 0
 ·have e1 : ∀ L' : List T, fl en L' = [] := λ L' => List.eq_nil_of_length_eq_zero (by rw [JN en n hl, hn, Nat.mul_zero])
  rw [e1, e1]
  have : ¬ (i * n + j <= k /\ k < i * n + j + new.length) := by omega
  rw [if_neg this]
 have hpos : 0 < n := Nat.pos_of_ne_zero hn
 by_cases hk : k < L.length * n
 ·obtain ⟨q, r, hq, hr, rfl⟩ : ∃ q r, q < L.length /\ r < n /\ k = q * n + r := ⟨k / n, k % n, (Nat.div_lt_iff_lt_mul hpos).2 hk, Nat.mod_lt _ hpos, by rw [Nat.mul_comm]; exact (Nat.div_add_mod k n).symm⟩
  rw [znu en n hl L q r hq hr, znu en n hl (L.set i b) q r (by simpa using hq) hr, List.getElem_set]
  by_cases e : i = q
  ·subst e
   simp only [if_true]
   rw [<- hb, jC new _ _ (by rw [hl]; exact hj)]
   have c : (i * n + j <= i * n + r /\ i * n + r < i * n + j + new.length) ↔ (j <= r /\ r < j + new.length) := by omega
   by_cases c2 : j <= r /\ r < j + new.length
   ·rw [if_pos (c.2 c2), if_pos c2]
    congr 1
    omega
   ·rw [if_neg (λ x => c2 (c.1 x)), if_neg c2]
  ·rw [if_neg e, if_neg]
   rintro ⟨c1, c2⟩
   rcases Nat.lt_or_gt_of_ne e with h1 | h1
   ·have : (i + 1) * n <= q * n := Nat.mul_le_mul_right n h1
    rw [Nat.succ_mul] at this
    omega
   ·have : (q + 1) * n <= i * n := Nat.mul_le_mul_right n h1
    rw [Nat.succ_mul] at this
    omega
 ·have e1 : (fl en L)[k]? = none := List.getElem?_eq_none (by rw [JN en n hl]; omega)
  have e2 : (fl en (L.set i b))[k]? = none := List.getElem?_eq_none (by rw [JN en n hl, List.length_set]; omega)
  have : ¬ (i * n + j <= k /\ k < i * n + j + new.length) := by
   rw [JN en n hl] at hlen
   omega
  rw [if_neg this, e1, e2]
end
end
section
@[reducible] def nmE (e : RT0) : RT1 := (e.1, e.2.1, e.2.2.1, e.2.2.2.1, e.2.2.2.2.1, e.2.2.2.2.2.1, e.2.2.2.2.2.2.1, e.2.2.2.2.2.2.2.1, e.2.2.2.2.2.2.2.2.1, ())
@[reducible] def pkE (e : RT0) : List (List AV) := e.2.2.2.2.2.2.2.2.2.1
@[reducible] def loE (e : RT0) : Int := e.2.2.2.2.2.2.2.2.2.2.2.2.2.2.2.2.2.2.2.2.2.2.1
@[reducible] def hiE (e : RT0) : Int := e.2.2.2.2.2.2.2.2.2.2.2.2.2.2.2.2.2.2.2.2.2.2.2.1
def z10 (c : Nat) : zyM := ((⟨#[]⟩ : ByteArray), (⟨#[]⟩ : ByteArray), (⟨#[]⟩ : ByteArray), (⟨#[]⟩ : ByteArray), 0, 0, 0, 0, 0, c, 0, 0, 0, 0, 0, 0, 0, 0, 0, 0, 0, 0, 0, 0, 0, ())
def z8 : RT8 := ((⟨#[]⟩ : ByteArray), (⟨#[]⟩ : ByteArray), (⟨#[]⟩ : ByteArray), (⟨#[]⟩ : ByteArray), 0, 0, 0, 0, 0, ([] : List (List AV)), 0, 0, 0, 0, 0, 0, 0, 0, 0, 0, 0, 0, 0, 0, 0, ())
def AB : ByteArray := ⟨#[65, 66]⟩
def LC : ByteArray := ⟨#[48, 48]⟩
def CH : ByteArray := ⟨#[66, 72, 90]⟩
def st : Nat -> ByteArray
 | 0 => ⟨#[83, 49]⟩
 | 1 => ⟨#[83, 50]⟩
 | 2 => ⟨#[83, 51]⟩
 | _ => ⟨#[83, 52]⟩
theorem zAg (k : Nat) (h : k < 4) : zs7 600 (k : Int) = some (AB, st k, LC, CH, ()) := by
 rcases (show k = 0 \/ k = 1 \/ k = 2 \/ k = 3 by omega) with rfl | rfl | rfl | rfl <;> kernel_rfl
theorem zp9 {xs : List Int} {p : Int} (D : Sc xs p) : ∃ x y z p', zs8 600 (20, zg xs, p) = some (x, y, z, zg xs, p') /\ Sc xs p' := by
 obtain ⟨v1, p1, h1, m1, D1⟩ := zar 600 (n := 41) (by omega) D
 obtain ⟨v2, p2, h2, m2, D2⟩ := zar 600 (n := 41) (by omega) D1
 obtain ⟨v3, p3, h3, m3, D3⟩ := zar 600 (n := 21) (by omega) D2
 simp only [zs8, FSpec.d, zs9]
 have e1 : i64 (i64 (2 * 20) + 1) = 41 := by decide
 have e2 : i64 (20 + 1) = 21 := by decide
 simp only [e1, e2, h1, h2, h3]
 exact ⟨_, _, _, _, rfl, D3⟩
def zha (k : Nat) (p : RT1) : Prop := p.1 = AB /\ p.2.1 = st k /\ p.2.2.1 = LC /\ p.2.2.2.1 = CH /\ p.2.2.2.2.2.2.2.2.1 = 0
theorem fl1 (L : List RT1) : (fl zh L).map dat0 = fl zh L := zr4 zh (λ _ => rfl) L
theorem fl0 (L : List RT0) : (fl zl L).map dat0 = fl zl L := zr4 zl (λ _ => rfl) L
theorem zfe (L : List RT1) : (fl zh L).length = L.length * 9 := JN zh 9 Zn L
theorem zAv (L : List RT0) : (fl zl L).length = L.length * 25 := JN zl 25 zaa L
theorem app1 (L : List RT1) (a : RT1) (k : Nat) (hk : k = L.length) : (fl zh L).take (k * 9) ++ [zh a].flatten = fl zh (L ++ [a]) := by
 rw [ze3 zh 9 Zn L k hk, <- znt]; simp
theorem zDo (L : List RT0) (a : RT0) (k : Nat) (hk : k = L.length) : (fl zl L).take (k * 25) ++ [zl a].flatten = fl zl (L ++ [a]) := by
 rw [ze3 zl 25 zaa L k hk, <- znt]; simp
theorem zuB (t : Int) {xs : List Int} (ht : 0 <= t /\ t <= 100000) : ∀ (m k f : Nat) (p : Int) (L : List RT1), k + m = 4 -> m < f -> Sc xs p -> L.length = k -> (∀ i (h : i < L.length), zha i L[i]) ->
  ∃ (L' : List RT1) (p' : Int), (Zu 600).L f (1, t, (k : Int), zg xs, p, z8, z10 k, fl zh L) = some (t, zg xs, p', z8, z10 L'.length, fl zh L') /\ (1 <= L'.length /\ L'.length <= 4) /\ (∀ i (h : i < L'.length), zha i L'[i]) /\ Sc xs p' := by
 intro m
 induction m with
 | zero =>
  intro k f p L hk hf D hl hL
  obtain ⟨f, rfl⟩ := pS hf
  obtain ⟨v, p1, h1, m1, D1⟩ := zar 600 (n := 4) (by omega) D
  refine ⟨L, p1, ?_, by omega, hL, D1⟩
  show (Zu 600).b _ _ ((Zu 600).L f) some = _
  simp only [Zu]
  have e1 : i64 (1 + v) = 1 + v := zW (by omega)
  have e2 : decide ((k : Int) < 1 + v) = false := dF (by omega)
  simp only [h1, e1, e2, fl1, hl]
 | succ m ih =>
  intro k f p L hk hf D hl hL
  obtain ⟨f, rfl⟩ := pS hf
  obtain ⟨v, p1, h1, m1, D1⟩ := zar 600 (n := 4) (by omega) D
  have e1 : i64 (1 + v) = 1 + v := zW (by omega)
  by_cases hc : (k : Int) < 1 + v
  ·obtain ⟨u, p2, h2, m2, D2⟩ := zar 600 (n := 3) (by omega) D1
   have hs := zAg k (by omega)
   obtain ⟨q, hq⟩ : ∃ q : RT1, q = (AB, st k, LC, CH, t + 10, t + 10, t + 10 + u, 1, 0, ()) := ⟨_, rfl⟩
   have hfin : ∀ i (h : i < (L ++ [q]).length), zha i (L ++ [q])[i] := λ i h => by
    rw [List.getElem_append]
    split
    ·exact hL i _
    ·simp at h
     obtain rfl : i = k := by omega
     simp [hl, hq, zha]
   obtain ⟨L', p', r1, r2, r3, r4⟩ := ih (k + 1) f p2 (L ++ [q]) (by omega) (by omega) D2 (by simp [hl]) hfin
   refine ⟨L', p', ?_, r2, r3, r4⟩
   show (Zu 600).b _ _ ((Zu 600).L f) some = _
   generalize (Zu 600).L f = Lf at r1 |-
   simp only [Zu]
   have e2 : decide ((k : Int) < 1 + v) = true := dT (by omega)
   have e3 : i64 (10 * 1) = 10 := by decide
   have e4 : i64 (t + 10) = t + 10 := zW (by omega)
   have e5 : i64 (t + 10 + u) = t + 10 + u := zW (by omega)
   have e6 : i64 ((k : Int) + 1) = ((k + 1 : Nat) : Int) := by rw [zW (by omega)]; omega
   have hb : ((z10 k).2.2.2.2.2.2.2.2.2.1 * 9 <= (fl zh L).length /\ ((z10 k).2.2.2.2.2.2.2.2.2.1 + [zh q].length) * 104 <= zd) := by
    rw [zfe]; unfold zd z10; simp; omega
   simp only [h1, e1, e2, hs, h2, e3, e4, e5, e6, <- hq, hb, if_true, and_self]
   rw [app1 L q _ (show (z10 k).2.2.2.2.2.2.2.2.2.1 = _ from hl.symm), fl1]
   exact r1
  ·refine ⟨L, p1, ?_, by omega, hL, D1⟩
   show (Zu 600).b _ _ ((Zu 600).L f) some = _
   simp only [Zu]
   have e2 : decide ((k : Int) < 1 + v) = false := dF (by omega)
   simp only [h1, e1, e2, fl1, hl]
theorem zCK {xs : List Int} {p : Int} (D : Sc xs p) : ∃ (e : zyN) (L : List RT1) (p' : Int), zlb 600 (1, zg xs, p) = some (e, zg xs, p', fl zh L) /\ e.2.2.2.2.2.2.2.2.2.1 = L.length /\ (1 <= L.length /\ L.length <= 4) /\ (∀ i (h : i < L.length), zha i L[i]) /\ e.2.2.2.2.2.2.2.2.2.2.2.2.2.2.2.2.2.2.2.2.2.2.1 <= e.2.2.2.2.2.2.2.2.2.2.2.2.2.2.2.2.2.2.2.2.2.2.2.1 /\ Sc xs p' := by
 obtain ⟨v, p1, h1, m1, D1⟩ := zar 600 (n := 300) (by omega) D
 have e1 : i64 (1000 + v) = 1000 + v := zW (by omega)
 obtain ⟨L, p2, h2, hl, hL, D2⟩ := zuB (1000 + v) (by omega) 4 0 600 p1 [] rfl (by omega) D1 rfl (λ i h => by cases h)
 obtain ⟨x, y, z, p3, h3, D3⟩ := zp9 D2
 obtain ⟨u4, p4, h4, m4, D4⟩ := zar 600 (n := 40) (by omega) D3
 obtain ⟨u5, p5, h5, m5, D5⟩ := zn4 600 [0, 0, 5, 500] (by simp) D4
 replace h5 : zjy 600 ([[AV.v (.int .i64 0)], [AV.v (.int .i64 0)], [AV.v (.int .i64 5)], [AV.v (.int .i64 500)]], zg xs, p4) = some (u5, zg xs, p5) := h5
 obtain ⟨u6, p6, h6, m6, D6⟩ := zar 600 (n := 3) (by omega) D5
 replace h2 : (Zu 600).L 600 (1, 1000 + v, 0, zg xs, p1, z8, z10 0, []) = some (1000 + v, zg xs, p2, z8, z10 L.length, fl zh L) := h2
 unfold z8 z10 at h2
 simp only [zlb, FSpec.d, zle]
 have hd : (fl zh L).drop ((0 + Int.toNat 0) * 9) = zh L[0] ++ fl zh (L.drop 1) := zcE zh 9 Zn L 0 0 (by omega) (by omega)
 have hz : (0 <= (0 : Int) /\ (0 : Int) < (L.length : Int)) := by omega
 simp only [h1, e1, zlc, h2, hz, and_self, if_true, hd, zbx, h3, h4, h5, h6]
 by_cases hc : u6 > 0
 ·obtain ⟨u7, p7, h7, m7, D7⟩ := zar 600 (n := 400) (by omega) D6
  obtain ⟨u8, p8, h8, m8, D8⟩ := zar 600 (n := 60) (by omega) D7
  simp only [hc, decide_true, h7, h8, fl1]
  have e9 : i64 (u7 + u8) = u7 + u8 := zW (by omega)
  simp only [e9]
  exact ⟨_, _, _, rfl, rfl, hl, hL, by dsimp only; omega, D8⟩
 ·simp only [hc, decide_false, fl1]
  exact ⟨_, _, _, rfl, rfl, hl, hL, Int.le_refl 0, D6⟩
def pick (n i : Nat) : RT1 := (AB, st i, LC, CH, 1000 + 400 * n + i, 1000 + 400 * n + i, 1000 + 400 * n + i + 2, 7, 0, ())
def pks (n f c : Nat) : List RT1 := (List.range' f (c - f)).map (pick n)
theorem zfl (n f c : Nat) : (pks n f c).length = c - f := by simp [pks]
theorem zpX (n i : Nat) : zha i (pick n i) := ⟨rfl, rfl, rfl, rfl, rfl⟩
theorem zfr (L : List RT1) (k j : Nat) (hk : k < L.length) (hj : j < 9) (a : AV) (b : RT1) (hb : splice (zh L[k]) j [a] = zh b) : splice (fl zh L) ((0 + ((k : Int)).toNat) * 9 + j) [a] = fl zh (L.set k b) := by
 rw [Nat.zero_add, Int.toNat_natCast]
 exact zgd zh 9 Zn L k j hk [a] b hb (by simp; omega)
theorem zqC (m : Int) (cnt n : Nat) (e : zyN) (ob : List AV) (hob : ob.map dat0 = ob) {xs : List Int} (hn : n <= 100) : ∀ (d k f : Nat) (p : Int) (L : List RT1), k + d = L.length -> d < f -> L.length <= 4 -> e.2.2.2.2.2.2.2.2.2.1 = L.length -> (∀ i (h : i < L.length), zha i L[i]) -> (∀ i (h : i < L.length), i < k -> L[i] = pick n i) ->
  (ZR 600).L f (m, cnt, (n : Int), (L.length : Int), (k : Int), zg xs, p, e, fl zh L, ob) = some (m, cnt, (n : Int), zg xs, p, e, fl zh (pks n 0 L.length), ob) := by
 intro d
 induction d with
 | zero =>
  intro k f p L hk hf hL he hO hP
  obtain ⟨f, rfl⟩ := pS hf
  show (ZR 600).b _ _ ((ZR 600).L f) some = _
  simp only [ZR]
  have e2 : decide ((k : Int) < L.length) = false := dF (by omega)
  have e3 : L = pks n 0 L.length := by
   refine List.ext_getElem (by simp [pks]) λ i h1 h2 => ?_
   rw [hP i h1 (by omega)]
   simp [pks]
  simp only [e2, fl1, hob]
  rw [<- e3]
 | succ d ih =>
  intro k f p L hk hf hL he hO hP
  obtain ⟨f, rfl⟩ := pS hf
  have hkl : k < L.length := by omega
  obtain ⟨o1, o2, o3, o4, o5⟩ := hO k hkl
  obtain ⟨q, hq⟩ : ∃ q, L[k] = q := ⟨_, rfl⟩
  rw [hq] at o1 o2 o3 o4 o5
  obtain ⟨q1, q2, q3, q4, q5, q6, q7, q8, q9, _⟩ := q
  subst o1 o2 o3 o4 o5
  have ih' := ih (k + 1) f p (L.set k (pick n k)) (by simp; omega) (by omega) (by simpa using hL) (by simpa using he) (λ i h => by
   rw [List.getElem_set]
   split
   ·rename_i e; subst e; exact zpX n _
   ·exact hO i (by simpa using h)) (λ i h hi => by
   rw [List.getElem_set]
   split
   ·rename_i e; subst e; rfl
   ·exact hP i (by simpa using h) (by omega))
  rw [List.length_set] at ih'
  show (ZR 600).b _ _ ((ZR 600).L f) some = _
  obtain ⟨Lf, hLf⟩ : ∃ Lf, Lf = (ZR 600).L f := ⟨_, rfl⟩
  rw [<- hLf] at ih' |-
  simp only [ZR]
  have e2 : decide ((k : Int) < L.length) = true := dT (by omega)
  have e3 : i64 (400 * (n : Int)) = 400 * n := zW (by omega)
  have e4 : i64 (1000 + 400 * (n : Int)) = 1000 + 400 * n := zW (by omega)
  have e5 : i64 (1000 + 400 * (n : Int) + k) = 1000 + 400 * n + k := zW (by omega)
  have e6 : i64 (1000 + 400 * (n : Int) + k + 2) = 1000 + 400 * n + k + 2 := zW (by omega)
  have e7 : i64 ((k : Int) + 1) = ((k + 1 : Nat) : Int) := by rw [zW (by omega)]; omega
  have hz : (0 <= (k : Int) /\ (k : Int) < (L.length : Int)) := by omega
  have s1 := zfr L k 4 hkl (by omega) (AV.v (.int .i64 (1000 + 400 * n + k))) (AB, st k, LC, CH, 1000 + 400 * n + k, q6, q7, q8, 0, ()) (by rw [hq]; rfl)
  have s2 := zfr (L.set k (AB, st k, LC, CH, 1000 + 400 * n + k, q6, q7, q8, 0, ())) k 5 (by simpa using hkl) (by omega) (AV.v (.int .i64 (1000 + 400 * n + k))) (AB, st k, LC, CH, 1000 + 400 * n + k, 1000 + 400 * n + k, q7, q8, 0, ()) (by rw [List.getElem_set_self]; rfl)
  have s3 := zfr (L.set k (AB, st k, LC, CH, 1000 + 400 * n + k, 1000 + 400 * n + k, q7, q8, 0, ())) k 6 (by simpa using hkl) (by omega) (AV.v (.int .i64 (1000 + 400 * n + k + 2))) (AB, st k, LC, CH, 1000 + 400 * n + k, 1000 + 400 * n + k, 1000 + 400 * n + k + 2, q8, 0, ()) (by rw [List.getElem_set_self]; rfl)
  have s4 := zfr (L.set k (AB, st k, LC, CH, 1000 + 400 * n + k, 1000 + 400 * n + k, 1000 + 400 * n + k + 2, q8, 0, ())) k 7 (by simpa using hkl) (by omega) (AV.v (.int .i64 7)) (pick n k) (by rw [List.getElem_set_self]; rfl)
  rw [List.set_set] at s2 s3 s4
  have g : ∀ (L' : List RT1) (j : Nat), L'.length = L.length -> j < 9 -> (0 + ((k : Int)).toNat) * 9 + j + 1 <= (fl zh L').length := λ L' j h1 h2 => by
   rw [zfe, h1, Nat.zero_add, Int.toNat_natCast]; omega
  simp only [e2, e3, e4, e5, e6, e7, he, hz, and_self, if_true, s1, s2, s3, s4, g L 4 rfl (by omega), g _ 5 (List.length_set) (by omega), g _ 6 (List.length_set) (by omega), g _ 7 (List.length_set) (by omega), fl1, hob]
  exact ih'
def EvAt (n : Nat) (e : RT0) : Prop := ∃ f c, f < c /\ c <= 4 /\ f <= 1 /\ nmE e = pick n f /\ pkE e = (pks n f c).map zh /\ loE e <= hiE e
def Evs (lo hi : Nat) : List RT0 -> Prop
 | [] => lo <= hi
 | e :: r => ∃ n, lo <= n /\ EvAt n e /\ Evs (n + 1) hi r
theorem Evs.mono : ∀ {L : List RT0} {lo hi hi' : Nat}, Evs lo hi L -> hi <= hi' -> Evs lo hi' L
 | [], lo, hi, hi', h, hh => Nat.le_trans h hh
 | e :: r, lo, hi, hi', h, hh => by
  obtain ⟨n, h1, h2, h3⟩ := h
  exact ⟨n, h1, h2, h3.mono hh⟩
theorem Evs.snoc : ∀ {L : List RT0} {lo n : Nat} {e : RT0}, Evs lo n L -> EvAt n e -> Evs lo (n + 1) (L ++ [e])
 | [], lo, n, e, h, he => ⟨n, h, he, Nat.le_refl _⟩
 | a :: r, lo, n, e, h, he => by
  obtain ⟨m, h1, h2, h3⟩ := h
  exact ⟨m, h1, h2, h3.snoc he⟩
theorem ziM (n r c : Nat) (h : r <= c) : (fl zh (pks n 0 c)).drop (r * 9) = fl zh (pks n r c) := by
 have e : pks n 0 c = pks n 0 r ++ pks n r c := by
  unfold pks
  rw [<- List.map_append, Nat.sub_zero, Nat.sub_zero]
  congr 1
  rw [show c = r + (c - r) by omega, <- List.range'_append_1]
  simp
 rw [e]
 unfold fl
 rw [List.map_append, List.flatten_append]
 have := zfe (pks n 0 r)
 unfold fl at this
 rw [zfl, Nat.sub_zero] at this
 rw [<- this, List.drop_left]
theorem zpE (m : Nat) {xs : List Int} (hm : m <= 20) : ∀ (d n f : Nat) (p : Int) (A : List RT0), n + d = m -> d < f -> Sc xs p -> A.length <= n -> Evs 0 n A ->
  ∃ (A' : List RT0) (p' : Int), (ZX 600).L f (A.length, (m : Int), (n : Int), zg xs, p, fl zl A) = some (A'.length, zg xs, p', fl zl A') /\ A'.length <= m /\ Evs 0 m A' /\ Sc xs p' := by
 intro d
 induction d with
 | zero =>
  intro n f p A hk hf D hA hE
  obtain ⟨f, rfl⟩ := pS hf
  refine ⟨A, p, ?_, by omega, by rw [<- hk]; exact hE, D⟩
  show (ZX 600).b _ _ ((ZX 600).L f) some = _
  simp only [ZX]
  have e2 := ltF n m (by omega)
  simp only [e2, fl0]
 | succ d ih =>
  intro n f p A hk hf D hA hE
  obtain ⟨f, rfl⟩ := pS hf
  have e2 := ltT n m (by omega)
  have e7 : i64 ((n : Int) + 1) = ((n + 1 : Nat) : Int) := by rw [zW (by omega)]; omega
  obtain ⟨v, p1, h1, m1, D1⟩ := zar 600 (n := 3) (by omega) D
  by_cases hv : v = 0
  ·obtain ⟨A', p', r1, r2, r3, r4⟩ := ih (n + 1) f p1 A (by omega) (by omega) D1 (by omega) (hE.mono (by omega))
   refine ⟨A', p', ?_, r2, r3, r4⟩
   show (ZX 600).b _ _ ((ZX 600).L f) some = _
   generalize (ZX 600).L f = Lf at r1 |-
   simp only [ZX]
   have e3 : (v == 0) = true := by simp [hv]
   simp only [e2, h1, e3, e7, fl0]
   exact r1
  ·have e3 : (v == 0) = false := by simp [hv]
   obtain ⟨e, L, p2, h2, hl, hl2, hL, hlo, D2⟩ := zCK D1
   have h3 := zqC (m : Int) A.length n e (fl zl A) (fl0 A) (xs := xs) (by omega) L.length 0 600 p2 L (by omega) (by omega) (by omega) hl hL (λ i h hi => by omega)
   replace h3 : (ZR 600).L 600 ((m : Int), A.length, (n : Int), (L.length : Int), 0, zg xs, p2, e, fl zh L, fl zl A) = some ((m : Int), A.length, (n : Int), zg xs, p2, e, fl zh (pks n 0 L.length), fl zl A) := h3
   obtain ⟨w, p3, h4, m4, D3⟩ := zar 600 (n := 2) (by omega) D2
   have e4 : i64 (((L.length : Nat) : Int) - 1) = ((L.length - 1 : Nat) : Int) := by rw [zW (by omega)]; omega
   obtain ⟨r, hr⟩ : ∃ r : Nat, (if ((L.length - 1 : Nat) : Int) < w then ((L.length - 1 : Nat) : Int) else w) = (r : Int) /\ r <= 1 /\ r < L.length := by
    by_cases hc : ((L.length - 1 : Nat) : Int) < w
    ·exact ⟨L.length - 1, by rw [if_pos hc], by omega, by omega⟩
    ·exact ⟨w.toNat, by rw [if_neg hc]; omega, by omega, by omega⟩
   obtain ⟨hr, hr1, hr2⟩ := hr
   obtain ⟨q, hq⟩ : ∃ q : RT0, q = ((pick n r).1, (pick n r).2.1, (pick n r).2.2.1, (pick n r).2.2.2.1, (pick n r).2.2.2.2.1, (pick n r).2.2.2.2.2.1, (pick n r).2.2.2.2.2.2.1, (pick n r).2.2.2.2.2.2.2.1, (pick n r).2.2.2.2.2.2.2.2.1, (pks n r L.length).map zh, e.2.2.2.2.2.2.2.2.2.2) := ⟨_, rfl⟩
   have hqe : EvAt n q := ⟨r, L.length, hr2, hl2.2, hr1, by rw [hq], by rw [hq], by rw [hq]; exact hlo⟩
   obtain ⟨A', p', r1, r2, r3, r4⟩ := ih (n + 1) f p3 (A ++ [q]) (by omega) (by omega) D3 (by simp; omega) (hE.snoc hqe)
   refine ⟨A', p', ?_, r2, r3, r4⟩
   show (ZX 600).b _ _ ((ZX 600).L f) some = _
   generalize (ZX 600).L f = Lf at r1 |-
   rw [List.length_append] at r1
   simp only [ZX]
   have hz1 : (0 <= (r : Int) /\ (r : Int) <= (L.length : Int)) := by omega
   have hz2 : (0 <= (0 : Int) /\ (0 : Int) < ((L.length - r : Nat) : Int)) := by omega
   have hd1 : (fl zh (pks n 0 L.length)).drop ((0 + r + Int.toNat 0) * 9) = zh (pick n r) ++ fl zh (pks n (r + 1) L.length) := by
    rw [show (0 + r + Int.toNat 0) * 9 = r * 9 by simp, ziM n r _ (by omega)]
    have : pks n r L.length = pick n r :: pks n (r + 1) L.length := by
     unfold pks
     rw [show L.length - r = (L.length - (r + 1)) + 1 by omega, List.range'_succ]
     rfl
    rw [this]
    rfl
   have hd2 : ZF (0 + r) 9 (fl zh (pks n 0 L.length)) = fl zh (pks n r L.length) := by
    rw [zeX, Nat.zero_add, ziM n r _ (by omega)]
   have hg1 : (L.length - r) * 9 <= (fl zh (pks n r L.length)).length := by rw [zfe, zfl]; omega
   have hch : zp ((fl zh (pks n r L.length)).take ((L.length - r) * 9)) 9 (L.length - r) = (pks n r L.length).map zh := Jh zh 9 Zn (λ _ => rfl) _ _ (by rw [zfl])
   have hg2 : (A.length * 25 <= (fl zl A).length /\ (A.length + [zl q].length) * 248 <= zd) := by
    rw [zAv]; unfold zd; simp; omega
   simp only [e2, h1, e3, h2, hl, fl1, fl0, h3, h4, e4, hr, hz1, Int.toNat_natCast, hz2, and_self, if_true, hd1, zbx, hd2, hg1, hch]
   simp only [<- hq, hg2, and_self, if_true, e7]
   rw [zDo A q _ rfl, fl0]
   exact r1
theorem znq (m : Nat) (hm : m <= 20) {xs : List Int} {p : Int} (D : Sc xs p) : ∃ (A : List RT0) (p' : Int), zfH 600 ((m : Int), zg xs, p) = some (A.map zl, zg xs, p') /\ A.length <= m /\ Evs 0 m A /\ Sc xs p' := by
 obtain ⟨A, p', h1, h2, h3, h4⟩ := zpE m hm m 0 600 p [] (by omega) (by omega) D (by simp) (Nat.le_refl 0)
 refine ⟨A, p', ?_, h2, h3, h4⟩
 replace h1 : (ZX 600).L 600 (0, (m : Int), 0, zg xs, p, []) = some (A.length, zg xs, p', fl zl A) := h1
 simp only [zfH, FSpec.d, zsO, zq5, h1]
 have hg : A.length * 25 <= (fl zl A).length := by rw [zAv]; exact Nat.le_refl _
 simp only [hg, if_true, Jh zl 25 zaa (λ _ => rfl) A _ rfl]
end
section
@[reducible] def eqP (a b : RT1) : Bool := (((a.1 == b.1) && ((a.2.1 == b.2.1) && ((a.2.2.1 == b.2.2.1) && ((a.2.2.2.1 == b.2.2.2.1) && true)))) && ((a.2.2.2.2.1 == b.2.2.2.2.1) && ((a.2.2.2.2.2.1 == b.2.2.2.2.2.1) && ((a.2.2.2.2.2.2.1 == b.2.2.2.2.2.2.1) && ((a.2.2.2.2.2.2.2.1 == b.2.2.2.2.2.2.2.1) && ((a.2.2.2.2.2.2.2.2.1 == b.2.2.2.2.2.2.2.2.1) && true))))))
theorem ziz {a b : ByteArray} : (a == b) = true ↔ a = b := by
 constructor
 ·intro h
  obtain ⟨x⟩ := a
  obtain ⟨y⟩ := b
  have : (x == y) = true := h
  rw [eq_of_beq this]
 ·rintro rfl
  obtain ⟨x⟩ := a
  exact beq_self_eq_true x
theorem Jf (a : RT1) : eqP a a = true := by
 simp only [eqP, Bool.and_eq_true, beq_self_eq_true, ziz, and_self]
theorem znp {a b : RT1} (h : eqP a b = true) : a = b := by
 obtain ⟨a1, a2, a3, a4, a5, a6, a7, a8, a9, a10⟩ := a
 obtain ⟨b1, b2, b3, b4, b5, b6, b7, b8, b9, b10⟩ := b
 simp only [eqP, Bool.and_eq_true, beq_iff_eq, ziz] at h
 obtain ⟨⟨h1, h2, h3, h4, -⟩, h5, h6, h7, h8, h9, -⟩ := h
 subst h1 h2 h3 h4 h5 h6 h7 h8 h9
 rfl
theorem JM {a b : RT1} (h : a ≠ b) : eqP a b = false := by
 cases e : eqP a b with
 | false => rfl
 | true => exact absurd (znp e) h
theorem zae (P : List RT1) (k : Nat) (h : k < P.length) : (P.map zh)[k]? = some (zh P[k]) := by simp [h]
theorem ze9 (P : List RT0) (k : Nat) (h : k < P.length) : (P.map zl)[k]? = some (zl P[k]) := by simp [h]
theorem zA {α : Type} {P : List α} {k : Nat} (h : k < P.length) (p : α) : p ∈ P.drop k ↔ p = P[k] \/ p ∈ P.drop (k + 1) := by
 rw [List.drop_eq_getElem_cons h, List.mem_cons]
theorem zbJ {k : Nat} (h : k < 1000000) : i64 ((k : Int) + 1) = ((k + 1 : Nat) : Int) := by rw [zW (by omega)]; omega
theorem zkb (P : List RT1) (p : RT1) (hP : P.length <= 500) : ∀ (d k f : Nat), k + d = P.length -> d < f -> ∃ y, (Zs 600).L f (P.map zh, (P.length : Int), (k : Int), p) = some y /\ ((p ∈ P.drop k /\ ∃ j : Nat, y = .inl (j : Int)) \/ (p ∉ P.drop k /\ y = .inr ())) := by
 intro d
 induction d with
 | zero =>
  intro k f hk hf
  obtain ⟨f, rfl⟩ := pS hf
  refine ⟨.inr (), ?_, .inr ⟨by rw [List.drop_eq_nil_of_le (by omega)]; simp, rfl⟩⟩
  show (Zs 600).b _ _ ((Zs 600).L f) some = _
  simp only [Zs]
  have e2 := ltF k P.length (by omega)
  simp only [e2]
 | succ d ih =>
  intro k f hk hf
  obtain ⟨f, rfl⟩ := pS hf
  have hkl : k < P.length := by omega
  have e2 := ltT k P.length (by omega)
  have e3 := nnI k
  by_cases hc : p = P[k]
  ·refine ⟨.inl (k : Int), ?_, .inl ⟨(zA hkl p).2 (.inl hc), k, rfl⟩⟩
   show (Zs 600).b _ _ ((Zs 600).L f) some = _
   simp only [Zs]
   have e4 : eqP p P[k] = true := by rw [<- hc]; exact Jf p
   simp only [e2, e3, if_true, Int.toNat_natCast, zae P k hkl, zI, e4]
  ·obtain ⟨y, r1, r2⟩ := ih (k + 1) f (by omega) (by omega)
   refine ⟨y, ?_, ?_⟩
   ·show (Zs 600).b _ _ ((Zs 600).L f) some = _
    generalize (Zs 600).L f = Lf at r1 |-
    simp only [Zs]
    have e4 : eqP p P[k] = false := JM hc
    simp only [e2, e3, if_true, Int.toNat_natCast, zae P k hkl, zI, e4, Zk k (by omega)]
    exact r1
   ·rcases r2 with ⟨h1, h2⟩ | ⟨h1, h2⟩
    ·exact .inl ⟨(zA hkl p).2 (.inr h1), h2⟩
    ·exact .inr ⟨λ h => ((zA hkl p).1 h).elim hc h1, h2⟩
theorem zhj (P : List RT1) (p : RT1) (hP : P.length <= 500) : ∃ b, zua 600 (P.map zh, p) = some b /\ (b = true ↔ p ∈ P) := by
 obtain ⟨y, h1, h2⟩ := zkb P p hP P.length 0 600 (by omega) (by omega)
 replace h1 : (Zs 600).L 600 (P.map zh, (P.length : Int), 0, p) = some y := h1
 rw [List.drop_zero] at h2
 simp only [zua, FSpec.d, zub, zqY, zk3, zk1, List.length_map, h1]
 rcases h2 with ⟨h2, j, rfl⟩ | ⟨h2, rfl⟩
 ·exact ⟨_, rfl, by simp [h2]⟩
 ·exact ⟨_, rfl, by simp [h2]⟩
def Com (P Q : List RT1) : Prop := ∃ p ∈ P, p ∈ Q
theorem zhO (P Q : List RT1) (e : RT0) (he : pkE e = Q.map zh) (hP : P.length <= 500) (hQ : Q.length <= 500) : ∀ (d k f : Nat), k + d = P.length -> d < f -> ∃ y, (Zr 600).L f (P.map zh, (P.length : Int), (k : Int), e) = some y /\ ((Com (P.drop k) Q /\ ∃ j : Nat, y = .inl ((j : Int), e)) \/ (¬ Com (P.drop k) Q /\ y = .inr e)) := by
 intro d
 induction d with
 | zero =>
  intro k f hk hf
  obtain ⟨f, rfl⟩ := pS hf
  refine ⟨.inr e, ?_, .inr ⟨by (rw [List.drop_eq_nil_of_le (by omega)]; rintro ⟨p, h, -⟩; cases h), rfl⟩⟩
  show (Zr 600).b _ _ ((Zr 600).L f) some = _
  simp only [Zr]
  have e2 := ltF k P.length (by omega)
  simp only [e2]
 | succ d ih =>
  intro k f hk hf
  obtain ⟨f, rfl⟩ := pS hf
  have hkl : k < P.length := by omega
  have e2 := ltT k P.length (by omega)
  have e3 := nnI k
  obtain ⟨b, hb, hb2⟩ := zhj Q P[k] hQ
  rw [<- he] at hb
  have hs : zt8 600 (P[k], e) = some (b, e) := by
   simp only [zt8, FSpec.d, zt9]
   simp only [hb]
  cases b with
  | true =>
   refine ⟨.inl ((k : Int), e), ?_, .inl ⟨⟨P[k], (zA hkl _).2 (.inl rfl), hb2.1 rfl⟩, k, rfl⟩⟩
   show (Zr 600).b _ _ ((Zr 600).L f) some = _
   simp only [Zr]
   simp only [e2, e3, if_true, Int.toNat_natCast, zae P k hkl, zI, hs]
  | false =>
   obtain ⟨y, r1, r2⟩ := ih (k + 1) f (by omega) (by omega)
   refine ⟨y, ?_, ?_⟩
   ·show (Zr 600).b _ _ ((Zr 600).L f) some = _
    generalize (Zr 600).L f = Lf at r1 |-
    simp only [Zr]
    simp only [e2, e3, if_true, Int.toNat_natCast, zae P k hkl, zI, hs, Zk k (by omega)]
    exact r1
   ·rcases r2 with ⟨⟨p, q1, q2⟩, h2⟩ | ⟨h1, h2⟩
    ·exact .inl ⟨⟨p, (zA hkl p).2 (.inr q1), q2⟩, h2⟩
    ·refine .inr ⟨λ ⟨p, q1, q2⟩ => ?_, h2⟩
     rcases (zA hkl p).1 q1 with e | e
     ·subst e; exact absurd (hb2.2 q2) (by simp)
     ·exact h1 ⟨p, e, q2⟩
theorem zoh (P Q : List RT1) (a e : RT0) (ha : pkE a = P.map zh) (he : pkE e = Q.map zh) (hP : P.length <= 500) (hQ : Q.length <= 500) : ∃ b, zo9 600 (a, e) = some b /\ (b = true ↔ Com P Q) := by
 obtain ⟨y, h1, h2⟩ := zhO P Q e he hP hQ P.length 0 600 (by omega) (by omega)
 replace h1 : (Zr 600).L 600 (P.map zh, (P.length : Int), 0, e) = some y := h1
 rw [List.drop_zero] at h2
 have ha' : a.2.2.2.2.2.2.2.2.2.1 = P.map zh := ha
 simp only [zo9, FSpec.d, ztQ, zyH, zt7, zqT, zkZ, zkX, ha', List.length_map, h1]
 rcases h2 with ⟨h2, j, rfl⟩ | ⟨h2, rfl⟩
 ·exact ⟨_, rfl, by simp [h2]⟩
 ·exact ⟨_, rfl, by simp [h2]⟩
end
section
theorem nm0 (e : RT0) : jk ((zl e).drop 0) = some (nmE e) := rfl
@[reducible] def tmP (p : RT1) : Int := p.2.2.2.2.1
theorem zuA (a b : RT1) : jX (zh a) (zh b) = eqP a b := by
 show (a.1 == b.1 && (a.2.1 == b.2.1 && (a.2.2.1 == b.2.2.1 && (a.2.2.2.1 == b.2.2.2.1 && (a.2.2.2.2.1 == b.2.2.2.2.1 && (a.2.2.2.2.2.1 == b.2.2.2.2.2.1 && (a.2.2.2.2.2.2.1 == b.2.2.2.2.2.2.1 && (a.2.2.2.2.2.2.2.1 == b.2.2.2.2.2.2.2.1 && (a.2.2.2.2.2.2.2.2.1 == b.2.2.2.2.2.2.2.2.1 && true))))))))) = _
 simp only [eqP, Bool.and_true, Bool.and_assoc]
theorem zr7 : ∀ (M : List RT1) (p : RT1), p ∉ M -> zdi (zh p) (M.map zh) = false /\ zbt (zh p) (zh p) (M.map zh) = (M ++ [p]).map zh
 | [], p, h => ⟨rfl, rfl⟩
 | q :: M, p, h => by
  have h1 : p ≠ q := λ e => h (by rw [e]; exact List.mem_cons_self)
  obtain ⟨i1, i2⟩ := zr7 M p (λ e => h (List.mem_cons_of_mem _ e))
  have e : jX (zh p) (zh q) = false := by rw [zuA]; exact JM h1
  refine ⟨?_, ?_⟩
  ·unfold zdi at i1 |-
   simp only [List.map_cons, Jm, e]
   exact i1
  ·simp only [List.map_cons, zbt, e, i2, List.cons_append]
theorem zze {L : List RT0} {lo hi : Nat} : Evs lo hi L -> L.length + lo <= hi := by
 induction L generalizing lo with
 | nil => intro h; have h' : lo <= hi := h; rw [List.length_nil]; omega
 | cons a L ih => exact λ ⟨n, h1, _, h3⟩ => by have := ih h3; rw [List.length_cons]; omega
def jj (e : RT0) : Prop := ∃ P : List RT1, P.length <= 20 /\ pkE e = P.map zh
theorem EvAt.pk {n : Nat} {e : RT0} (h : EvAt n e) : jj e := by
 obtain ⟨f, c, h1, h2, h3, h4, h5, h6⟩ := h
 exact ⟨pks n f c, by rw [zfl]; omega, h5⟩
theorem Evs.all : ∀ {E : List RT0} {lo hi : Nat}, Evs lo hi E -> ∀ e ∈ E, ∃ n, lo <= n /\ n < hi /\ EvAt n e
 | [], lo, hi, h, e, he => by cases he
 | a :: E, lo, hi, h, e, he => by
  obtain ⟨n, h1, h2, h3⟩ := h
  have := zze h3
  rcases List.mem_cons.1 he with h | h
  ·subst h; exact ⟨n, h1, by omega, h2⟩
  ·obtain ⟨m, q1, q2, q3⟩ := h3.all e h
   exact ⟨m, by omega, q2, q3⟩
structure EvOk (E : List RT0) : Prop where
 v : zg2 600 (E.map zl) = some true
 l : E.length <= 5
 names : E.Pairwise λ a b => nmE a ≠ nmE b
 pk : ∀ e ∈ E, jj e
end
end Go.Proofs.YthdgnfcbehcplaaGreatDoor
