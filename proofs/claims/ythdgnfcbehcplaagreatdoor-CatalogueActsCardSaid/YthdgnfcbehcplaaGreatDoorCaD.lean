/- Several texts as one (written by pack.py). -/
import Derived.Test.YthdgnfcbehcplaaGreatDoorCaC
set_option linter.unusedVariables false
set_option linter.unusedSimpArgs false
set_option linter.unnecessarySimpa false
namespace Go.Proofs.YthdgnfcbehcplaaGreatDoor
section
noncomputable section
open Go.RowKit
set_option maxRecDepth 4000
set_option maxHeartbeats 4000000
def zrn : Nat -> Keep × Keep := anL []
def zuZ (N : Nat) : List (Ent qP) := []
def zki (N : Nat) : FSpec where
 X := ByteArray × ByteArray
 Y := Int
 ad := .mk [.str, .str] [] rfl
 ret := λ y => qR (AV.v (.int .i64 y))
 t := λ x α k => (match (Go.Op.bytesLess x.1.toList x.2.toList) with | true => (k (-1)) | false => (match (!((Go.Op.bytesLess x.1.toList x.2.toList) || (x.1.toList == x.2.toList))) with | true => (k 1) | false => (k 0)))
abbrev zc7 (N : Nat) (x : ByteArray × ByteArray) : Option (Int) := (zki N).d x
def zuY (N : Nat) : Ent qP := zK (zc qP) zf (zuZ N) 114 Tryz.f114 Tryz.func114 zrn N [] (l := []) an (zki N)
abbrev RK4 : List Ck := [.int .i64, .int .i64, .int .i64, .int .i64]
abbrev RT4 : Type := Int × Int × Int × Int × Unit
def zdR : Nat -> Keep × Keep := anL [(4, qK [27, 28] [] [], qK [4] [] [])]
def zpM (N : Nat) : List (Ent qP) := [zuY N]
def Zf (N : Nat) : LSpec where
 X := RT4 × Int
 Y := (Int) ⊕ (Unit)
 dt := .mk 35 0 (zdR 4).1.toks [(27, .agg RK4), (28, .int .i64)] [] rfl
 od := .mk 35 0 (zdR 4).2.toks [⟨.ret, [(4, .int .i64)], [], none⟩, ⟨.exit 0, [], [], none⟩] rfl
 b := λ u4 α kn ke => (match (decide (u4.2 < 4)) with | true => (if 0 <= u4.2 /\ u4.2 < 4 then (match [(AV.v (.int .i64 u4.1.1)), (AV.v (.int .i64 u4.1.2.1)), (AV.v (.int .i64 u4.1.2.2.1)), (AV.v (.int .i64 u4.1.2.2.2.1))][(u4.2.toNat * 1)]? with | some x5 => (match x5 with | .v (.int q7 n6) => (if q7 = .i64 then (match (n6 != 0) with | true => (ke (.inl n6)) | false => (kn (u4.1, (i64 (u4.2 + 1))))) else none) | _ => none) | none => none) else none) | false => (ke (.inr ())))
abbrev zf2 (N : Nat) (x : RT4 × Int) : Option ((Int) ⊕ (Unit)) := (Zf N).L N x
def zj8 (N : Nat) : FSpec where
 X := RT2 × RT2
 Y := Int
 ad := .mk [.agg RK2, .agg RK2] [] rfl
 ret := λ y => qR (AV.v (.int .i64 y))
 t := λ x α k => (match zc7 N (x.1.1, x.2.1) with | some y1 => (match zc7 N (x.1.2.1, x.2.2.1) with | some y2 => (match zc7 N (x.1.2.2.1, x.2.2.2.1) with | some y3 => (match zc7 N (x.1.2.2.2.1, x.2.2.2.2.1) with | some y4 => (match zf2 N ((y1, y2, y3, y4, ()), 0) with | some y8 => (match y8 with | .inl z9 => (k z9) | .inr z10 => (k 0)) | none => none) | none => none) | none => none) | none => none) | none => none)
abbrev zhd (N : Nat) (x : RT2 × RT2) : Option (Int) := (zj8 N).d x
def zj7 (N : Nat) : List (Nat × LSpec) := [(4, Zf N)]
def zpL : Code := Tryz.f106.body.getD .skip
theorem ziD (N : Nat) : Zb qP zdR N (zj7 N) 4 (zb 4 zpL) :=
 zC (zc qP) zf (zpM N) (l := []) an (Zf N)
def zuJ (N : Nat) : Ent qP := zK (zc qP) zf (zpM N) 106 Tryz.f106 Tryz.func106 zdR N (zj7 N) (l := [(4, zb 4 zpL)]) (al (ziD N) an) (zj8 N)
abbrev RK5 : List Ck := [.int .i64, .int .i64, .int .i64, .int .i64, .int .i64, .int .i64, .int .i64, .int .i64, .int .i64, .int .i64]
abbrev RT5 : Type := Int × Int × Int × Int × Int × Int × Int × Int × Int × Int × Unit
def zhB : Nat -> Keep × Keep := anL [(9, qK [41, 42] [] [], qK [4] [] [])]
def zwZ (N : Nat) : List (Ent qP) := [zuJ N]
def jA (N : Nat) : LSpec where
 X := RT5 × Int
 Y := (Int) ⊕ (Unit)
 dt := .mk 56 0 (zhB 9).1.toks [(41, .agg RK5), (42, .int .i64)] [] rfl
 od := .mk 56 0 (zhB 9).2.toks [⟨.ret, [(4, .int .i64)], [], none⟩, ⟨.exit 0, [], [], none⟩] rfl
 b := λ u9 α kn ke => (match (decide (u9.2 < 5)) with | true => (if 0 <= u9.2 /\ u9.2 < 5 then (match ([(AV.v (.int .i64 u9.1.1)), (AV.v (.int .i64 u9.1.2.1)), (AV.v (.int .i64 u9.1.2.2.1)), (AV.v (.int .i64 u9.1.2.2.2.1)), (AV.v (.int .i64 u9.1.2.2.2.2.1)), (AV.v (.int .i64 u9.1.2.2.2.2.2.1)), (AV.v (.int .i64 u9.1.2.2.2.2.2.2.1)), (AV.v (.int .i64 u9.1.2.2.2.2.2.2.2.1)), (AV.v (.int .i64 u9.1.2.2.2.2.2.2.2.2.1)), (AV.v (.int .i64 u9.1.2.2.2.2.2.2.2.2.2.1))].drop (u9.2.toNat * 2)) with | x2 :: r3 => (match x2 with | .v (.int q5 n4) => (if q5 = .i64 then (match r3 with | x6 :: r7 => (match x6 with | .v (.int q9 n8) => (if q9 = .i64 then (match (decide (n4 < n8)) with | true => (ke (.inl (-1))) | false => (match (decide (n4 > n8)) with | true => (ke (.inl 1)) | false => (kn (u9.1, (i64 (u9.2 + 1)))))) else none) | _ => none) | [] => none) else none) | _ => none) | [] => none) else none) | false => (ke (.inr ())))
abbrev zqA (N : Nat) (x : RT5 × Int) : Option ((Int) ⊕ (Unit)) := (jA N).L N x
def zsF (N : Nat) : FSpec where
 X := RT1 × RT1
 Y := Int
 ad := .mk [.agg RK1, .agg RK1] [] rfl
 ret := λ y => qR (AV.v (.int .i64 y))
 t := λ x α k => (match zhd N ((Jn x.1), (Jn x.2)) with | some y1 => (match (y1 != 0) with | true => (k y1) | false => (match zqA N ((x.1.2.2.2.2.1, x.2.2.2.2.2.1, x.1.2.2.2.2.2.1, x.2.2.2.2.2.2.1, x.1.2.2.2.2.2.2.1, x.2.2.2.2.2.2.2.1, x.1.2.2.2.2.2.2.2.1, x.2.2.2.2.2.2.2.2.1, x.1.2.2.2.2.2.2.2.2.1, x.2.2.2.2.2.2.2.2.2.1, ()), 0) with | some y10 => (match y10 with | .inl z11 => (k z11) | .inr z12 => (k 0)) | none => none)) | none => none)
abbrev zn1 (N : Nat) (x : RT1 × RT1) : Option (Int) := (zsF N).d x
def zqB (N : Nat) : List (Nat × LSpec) := [(9, jA N)]
def zwX : Code := Tryz.f94.body.getD .skip
theorem zlU (N : Nat) : Zb qP zhB N (zqB N) 9 (zb 9 zwX) :=
 zC (zc qP) zf (zwZ N) (l := []) an (jA N)
def zwY (N : Nat) : Ent qP := zK (zc qP) zf (zwZ N) 94 Tryz.f94 Tryz.func94 zhB N (zqB N) (l := [(9, zb 9 zwX)]) (al (zlU N) an) (zsF N)
def zwp : Nat -> Keep × Keep := anL []
def zzR (N : Nat) : List (Ent qP) := [zwY N]
def zsj (N : Nat) : FSpec where
 X := RT1 × RT1
 Y := Int
 ad := .mk [.agg RK1, .agg RK1] [] rfl
 ret := λ y => qR (AV.v (.int .i64 y))
 t := λ x α k => (match (decide (x.1.2.2.2.2.1 < x.2.2.2.2.2.1)) with | true => (k (-1)) | false => (match (decide (x.1.2.2.2.2.1 > x.2.2.2.2.2.1)) with | true => (k 1) | false => (match zn1 N x with | some y1 => (k y1) | none => none)))
abbrev zlz (N : Nat) (x : RT1 × RT1) : Option (Int) := (zsj N).d x
def zwq (N : Nat) : Ent qP := zK (zc qP) zf (zzR N) 73 Tryz.f73 Tryz.func73 zwp N [] (l := []) an (zsj N)
def zhx : Nat -> Keep × Keep := anL [(5, ⟨[2, 3, 4], [], [2, 3], [(0, 9)], [], [], [], [], false, none, []⟩, qK [2, 3] [] [2, 3])]
def zwl (N : Nat) : List (Ent qP) := [zwq N]
def j9 (N : Nat) : LSpec where
 X := qL × Int × RT1 × RT1
 Y := (RT1 × RT1)
 dt := .mk 26 0 (zhx 5).1.toks [(0, .lst 9), (2, .ptr 2 0), (3, .ptr 3 0), (4, .int .i64)] [(2, .row RK1), (3, .row RK1)] rfl
 od := .mk 26 0 (zhx 5).2.toks [⟨.exit 0, [(2, .ptr 2 0), (3, .ptr 3 0)], [(2, .row RK1), (3, .row RK1)], none⟩] rfl
 b := λ u5 α kn ke => (match (decide (u5.2.1 < (u5.1.length : Int))) with | true => (if 0 <= u5.2.1 then (match u5.1[u5.2.1.toNat]? with | some c8 => (match jI c8 with | some e9 => (match zlz N (e9, u5.2.2.2) with | some y10 => (match (decide (y10 < 0)) with | true => (if 0 <= u5.2.1 then (match u5.1[u5.2.1.toNat]? with | some c11 => (match jI c11 with | some e12 => (kn (u5.1, (i64 (u5.2.1 + 1)), u5.2.2.1, e12)) | none => none) | none => none) else none) | false => (kn (u5.1, (i64 (u5.2.1 + 1)), u5.2.2))) | none => none) | none => none) | none => none) else none) | false => (ke u5.2.2))
abbrev zqk (N : Nat) (x : qL × Int × RT1 × RT1) : Option ((RT1 × RT1)) := (j9 N).L N x
def zsf (N : Nat) : FSpec where
 X := qL
 Y := RT1
 ad := .mk [.lst 9] [] rfl
 S := ⟨[[none, none, none, none, none, none, none, none, none]], [], [], [], []⟩
 ret := λ y => qR (AV.agg (zj y))
 t := λ x α k => (if 0 <= (0 : Int) then (match x[(0 : Int).toNat]? with | some c1 => (match jI c1 with | some e2 => (match zqk N (x, 1, ((⟨#[]⟩ : ByteArray), (⟨#[]⟩ : ByteArray), (⟨#[]⟩ : ByteArray), (⟨#[]⟩ : ByteArray), 0, 0, 0, 0, 0, ()), e2) with | some y13 => (k y13.2) | none => none) | none => none) | none => none) else none)
abbrev znS (N : Nat) (x : qL) : Option (RT1) := (zsf N).d x
def zql (N : Nat) : List (Nat × LSpec) := [(5, j9 N)]
def zwk : Code := Tryz.f70.body.getD .skip
theorem zlt (N : Nat) : Zb qP zhx N (zql N) 5 (zb 5 zwk) :=
 zC (zc qP) zf (zwl N) (l := []) an (j9 N)
def zzP (N : Nat) : Ent qP := zK (zc qP) zf (zwl N) 70 Tryz.f70 Tryz.func70 zhx N (zql N) (l := [(5, zb 5 zwk)]) (al (zlt N) an) (zsf N)
def zb1 : Nat -> Keep × Keep := anF [(5, ⟨[4], [], [], [(0, 9)], [], [(3, 9)], [], [], false, none, []⟩, ⟨[], [], [], [], [], [(3, 9)], [], [], false, none, []⟩), (14, ⟨[3, 4, 5], [], [1000003], [(0, 9)], [], [], [], [1000003], false, none, []⟩, ⟨[3, 4, 5], [], [1000003], [(0, 9)], [], [], [], [1000003], false, none, []⟩)] [(100012, ([3], []))]
def zsh (N : Nat) : List (Ent qP) := [zwY N]
def ZH (N : Nat) : LSpec where
 X := qL × Nat × Int × Int × qA
 Y := (qL × Nat × Int × Int × qA)
 dt := .mk 68 0 (zb1 14).1.toks [(0, .lst 9), (3, .vs0 1000003 9), (4, .int .i64), (5, .int .i64)] [(1000003, .tt)] rfl
 od := .mk 68 0 (zb1 14).2.toks [⟨.exit 2, [(0, .lst 9), (3, .vs0 1000003 9), (4, .int .i64), (5, .int .i64)], [(1000003, .tt)], none⟩] rfl
 b := λ u14 α kn ke => (match (decide (u14.2.2.2.1 > 0)) with | true => (if 0 <= (i64 (u14.2.2.2.1 - 1)) /\ (i64 (u14.2.2.2.1 - 1)) < (u14.2.1 : Int) then (match jI (u14.2.2.2.2.drop ((0 + (i64 (u14.2.2.2.1 - 1)).toNat) * 9)) with | some e5 => (if 0 <= u14.2.2.1 then (match u14.1[u14.2.2.1.toNat]? with | some c6 => (match jI c6 with | some e7 => (match zn1 N (e5, e7) with | some y8 => (match (decide (y8 > 0)) with | true => (kn (u14.1, u14.2.1, u14.2.2.1, (i64 (u14.2.2.2.1 - 1)), (u14.2.2.2.2.map dat0))) | false => (ke (u14.1, u14.2.1, u14.2.2.1, u14.2.2.2.1, (u14.2.2.2.2.map dat0)))) | none => none) | none => none) | none => none) else none) | none => none) else none) | false => (ke (u14.1, u14.2.1, u14.2.2.1, u14.2.2.2.1, (u14.2.2.2.2.map dat0))))
abbrev zlw (N : Nat) (x : qL × Nat × Int × Int × qA) : Option ((qL × Nat × Int × Int × qA)) := (ZH N).L N x
def jz (N : Nat) : LSpec where
 X := Nat × qL × Int × qA
 Y := (Nat × qA)
 dt := .mk 68 0 (zb1 5).1.toks [(3, .vs0 1000003 9), (0, .lst 9), (4, .int .i64)] [(1000003, .tt)] rfl
 od := .mk 68 0 (zb1 5).2.toks [⟨.exit 0, [(3, .vs0 1000003 9)], [(1000003, .tt)], none⟩] rfl
 b := λ u5 α kn ke => (match (decide (u5.2.2.1 < (u5.2.1.length : Int))) with | true => (match zlw N (u5.2.1, u5.1, u5.2.2.1, ((u5.1 : Nat) : Int), (u5.2.2.2.map dat0)) with | some y9 => (match (decide (y9.2.2.2.1 > 0)) with | true => (if 0 <= (i64 (y9.2.2.2.1 - 1)) /\ (i64 (y9.2.2.2.1 - 1)) < (y9.2.1 : Int) then (match jI (y9.2.2.2.2.drop ((0 + (i64 (y9.2.2.2.1 - 1)).toNat) * 9)) with | some e10 => (if 0 <= y9.2.2.1 then (match y9.1[y9.2.2.1.toNat]? with | some c11 => (match jI c11 with | some e12 => (match (((e10.1 == e12.1) && ((e10.2.1 == e12.2.1) && ((e10.2.2.1 == e12.2.2.1) && ((e10.2.2.2.1 == e12.2.2.2.1) && true)))) && ((e10.2.2.2.2.1 == e12.2.2.2.2.1) && ((e10.2.2.2.2.2.1 == e12.2.2.2.2.2.1) && ((e10.2.2.2.2.2.2.1 == e12.2.2.2.2.2.2.1) && ((e10.2.2.2.2.2.2.2.1 == e12.2.2.2.2.2.2.2.1) && ((e10.2.2.2.2.2.2.2.2.1 == e12.2.2.2.2.2.2.2.2.1) && true)))))) with | true => (kn (y9.2.1, y9.1, (i64 (y9.2.2.1 + 1)), (y9.2.2.2.2.map dat0))) | false => (if 0 <= y9.2.2.1 then (match y9.1[y9.2.2.1.toNat]? with | some c13 => (match jI c13 with | some e14 => (if y9.2.1 * 9 <= y9.2.2.2.2.length /\ (y9.2.1 + [(zj e14)].length) * 104 <= ze then (if 0 <= (i64 (y9.2.2.2.1 + 1)) /\ (i64 (y9.2.2.2.1 + 1)) <= (((y9.2.1 + [(zj e14)].length) : Nat) : Int) then (if 0 <= y9.2.2.2.1 /\ y9.2.2.2.1 <= (((y9.2.1 + [(zj e14)].length) : Nat) : Int) then (if ((0 + y9.2.2.2.1.toNat) + ((y9.2.1 + [(zj e14)].length) - y9.2.2.2.1.toNat)) * 9 <= (y9.2.2.2.2.take (y9.2.1 * 9) ++ [(zj e14)].flatten).length then (if ((0 + (i64 (y9.2.2.2.1 + 1)).toNat) + ((y9.2.1 + [(zj e14)].length) - (i64 (y9.2.2.2.1 + 1)).toNat)) * 9 <= (y9.2.2.2.2.take (y9.2.1 * 9) ++ [(zj e14)].flatten).length then (if 0 <= y9.2.2.1 then (match y9.1[y9.2.2.1.toNat]? with | some c15 => (match jI c15 with | some e16 => (if 0 <= y9.2.2.2.1 /\ y9.2.2.2.1 < (((y9.2.1 + [(zj e14)].length) : Nat) : Int) then (if ((0 + y9.2.2.2.1.toNat) * 9) + 9 <= (splice (y9.2.2.2.2.take (y9.2.1 * 9) ++ [(zj e14)].flatten) ((0 + (i64 (y9.2.2.2.1 + 1)).toNat) * 9) (((y9.2.2.2.2.take (y9.2.1 * 9) ++ [(zj e14)].flatten).drop ((0 + y9.2.2.2.1.toNat) * 9)).take ((Nat.min ((y9.2.1 + [(zj e14)].length) - y9.2.2.2.1.toNat) ((y9.2.1 + [(zj e14)].length) - (i64 (y9.2.2.2.1 + 1)).toNat)) * 9))).length then (kn ((y9.2.1 + [(zj e14)].length), y9.1, (i64 (y9.2.2.1 + 1)), ((splice (splice (y9.2.2.2.2.take (y9.2.1 * 9) ++ [(zj e14)].flatten) ((0 + (i64 (y9.2.2.2.1 + 1)).toNat) * 9) (((y9.2.2.2.2.take (y9.2.1 * 9) ++ [(zj e14)].flatten).drop ((0 + y9.2.2.2.1.toNat) * 9)).take ((Nat.min ((y9.2.1 + [(zj e14)].length) - y9.2.2.2.1.toNat) ((y9.2.1 + [(zj e14)].length) - (i64 (y9.2.2.2.1 + 1)).toNat)) * 9))) ((0 + y9.2.2.2.1.toNat) * 9) (zj e16)).map dat0))) else none) else none) | none => none) | none => none) else none) else none) else none) else none) else none) else none) | none => none) | none => none) else none)) | none => none) | none => none) else none) | none => none) else none) | false => (if 0 <= y9.2.2.1 then (match y9.1[y9.2.2.1.toNat]? with | some c17 => (match jI c17 with | some e18 => (if y9.2.1 * 9 <= y9.2.2.2.2.length /\ (y9.2.1 + [(zj e18)].length) * 104 <= ze then (if 0 <= (i64 (y9.2.2.2.1 + 1)) /\ (i64 (y9.2.2.2.1 + 1)) <= (((y9.2.1 + [(zj e18)].length) : Nat) : Int) then (if 0 <= y9.2.2.2.1 /\ y9.2.2.2.1 <= (((y9.2.1 + [(zj e18)].length) : Nat) : Int) then (if ((0 + y9.2.2.2.1.toNat) + ((y9.2.1 + [(zj e18)].length) - y9.2.2.2.1.toNat)) * 9 <= (y9.2.2.2.2.take (y9.2.1 * 9) ++ [(zj e18)].flatten).length then (if ((0 + (i64 (y9.2.2.2.1 + 1)).toNat) + ((y9.2.1 + [(zj e18)].length) - (i64 (y9.2.2.2.1 + 1)).toNat)) * 9 <= (y9.2.2.2.2.take (y9.2.1 * 9) ++ [(zj e18)].flatten).length then (if 0 <= y9.2.2.1 then (match y9.1[y9.2.2.1.toNat]? with | some c19 => (match jI c19 with | some e20 => (if 0 <= y9.2.2.2.1 /\ y9.2.2.2.1 < (((y9.2.1 + [(zj e18)].length) : Nat) : Int) then (if ((0 + y9.2.2.2.1.toNat) * 9) + 9 <= (splice (y9.2.2.2.2.take (y9.2.1 * 9) ++ [(zj e18)].flatten) ((0 + (i64 (y9.2.2.2.1 + 1)).toNat) * 9) (((y9.2.2.2.2.take (y9.2.1 * 9) ++ [(zj e18)].flatten).drop ((0 + y9.2.2.2.1.toNat) * 9)).take ((Nat.min ((y9.2.1 + [(zj e18)].length) - y9.2.2.2.1.toNat) ((y9.2.1 + [(zj e18)].length) - (i64 (y9.2.2.2.1 + 1)).toNat)) * 9))).length then (kn ((y9.2.1 + [(zj e18)].length), y9.1, (i64 (y9.2.2.1 + 1)), ((splice (splice (y9.2.2.2.2.take (y9.2.1 * 9) ++ [(zj e18)].flatten) ((0 + (i64 (y9.2.2.2.1 + 1)).toNat) * 9) (((y9.2.2.2.2.take (y9.2.1 * 9) ++ [(zj e18)].flatten).drop ((0 + y9.2.2.2.1.toNat) * 9)).take ((Nat.min ((y9.2.1 + [(zj e18)].length) - y9.2.2.2.1.toNat) ((y9.2.1 + [(zj e18)].length) - (i64 (y9.2.2.2.1 + 1)).toNat)) * 9))) ((0 + y9.2.2.2.1.toNat) * 9) (zj e20)).map dat0))) else none) else none) | none => none) | none => none) else none) else none) else none) else none) else none) else none) | none => none) | none => none) else none)) | none => none) | false => (ke (u5.1, (u5.2.2.2.map dat0))))
abbrev zqo (N : Nat) (x : Nat × qL × Int × qA) : Option ((Nat × qA)) := (jz N).L N x
def zsi (N : Nat) : FSpec where
 X := qL
 Y := qL
 ad := .mk [.lst 9] [] rfl
 S := ⟨[[some 2000009]], [], [], [], []⟩
 ret := λ y => ⟨(AV.list 9 y (some 2560000000)), [], none, [], [2560000000], [], none⟩
 t := λ x α k => (match zqo N (0, x, 0, ([] : List AV)) with | some y21 => (if y21.1 * 9 <= y21.2.length then (k (zo (y21.2.take (y21.1 * 9)) 9 y21.1)) else none) | none => none)
abbrev znT (N : Nat) (x : qL) : Option (qL) := (zsi N).d x
def zly (N : Nat) : List (Nat × LSpec) := [(5, jz N), (14, ZH N)]
def zlv : Code := Tryz.f72.body.getD .skip
theorem zdl (N : Nat) : Zb qP zb1 N (zly N) 14 (zb 14 zlv) :=
 zC (zx qP [51]) zf (zsh N) (l := []) an (ZH N)
theorem zlx (N : Nat) : Zb qP zb1 N (zly N) 5 (zb 5 zlv) :=
 zC (zx qP [51]) zf (zsh N) (l := [(14, zb 14 zlv)]) (al (zdl N) an) (jz N)
def zzQ (N : Nat) : Ent qP := zK (zx qP [51]) zf (zsh N) 72 Tryz.f72 Tryz.func72 zb1 N (zly N) (l := [(5, zb 5 zlv), (14, zb 14 zlv)]) (al (zlx N) (al (zdl N) an)) (zsi N)
def zhy : Nat -> Keep × Keep := anL [(8, ⟨[5], [], [], [(0, 9), (1, 9)], [], [], [], [], false, none, []⟩, qK [4] [] [])]
def zwo (N : Nat) : List (Ent qP) := []
def ji (N : Nat) : LSpec where
 X := qL × qL × Int
 Y := (Bool) ⊕ (Unit)
 dt := .mk 26 0 (zhy 8).1.toks [(0, .lst 9), (1, .lst 9), (5, .int .i64)] [] rfl
 od := .mk 26 0 (zhy 8).2.toks [⟨.ret, [(4, .bool)], [], none⟩, ⟨.exit 0, [], [], none⟩] rfl
 b := λ u8 α kn ke => (match (decide (u8.2.2 < (u8.1.length : Int))) with | true => (if 0 <= u8.2.2 then (match u8.1[u8.2.2.toNat]? with | some c1 => (match jI c1 with | some e2 => (if 0 <= u8.2.2 then (match u8.2.1[u8.2.2.toNat]? with | some c3 => (match jI c3 with | some e4 => (match (!(((e2.1 == e4.1) && ((e2.2.1 == e4.2.1) && ((e2.2.2.1 == e4.2.2.1) && ((e2.2.2.2.1 == e4.2.2.2.1) && true)))) && ((e2.2.2.2.2.1 == e4.2.2.2.2.1) && ((e2.2.2.2.2.2.1 == e4.2.2.2.2.2.1) && ((e2.2.2.2.2.2.2.1 == e4.2.2.2.2.2.2.1) && ((e2.2.2.2.2.2.2.2.1 == e4.2.2.2.2.2.2.2.1) && ((e2.2.2.2.2.2.2.2.2.1 == e4.2.2.2.2.2.2.2.2.1) && true))))))) with | true => (ke (.inl false)) | false => (kn (u8.1, u8.2.1, (i64 (u8.2.2 + 1))))) | none => none) | none => none) else none) | none => none) | none => none) else none) | false => (ke (.inr ())))
abbrev zqm (N : Nat) (x : qL × qL × Int) : Option ((Bool) ⊕ (Unit)) := (ji N).L N x
def zsg (N : Nat) : FSpec where
 X := qL × qL
 Y := Bool
 ad := .mk [.lst 9, .lst 9] [] rfl
 ret := λ y => qR (AV.v (.bool y))
 t := λ x α k => (match ((x.1.length : Int) != (x.2.length : Int)) with | true => (k false) | false => (match zqm N (x.1, x.2, 0) with | some y5 => (match y5 with | .inl z6 => (k z6) | .inr z7 => (k true)) | none => none))
abbrev zgh (N : Nat) (x : qL × qL) : Option (Bool) := (zsg N).d x
def zqn (N : Nat) : List (Nat × LSpec) := [(8, ji N)]
def zwm : Code := Tryz.f71.body.getD .skip
theorem zlu (N : Nat) : Zb qP zhy N (zqn N) 8 (zb 8 zwm) :=
 zC (zc qP) zf (zwo N) (l := []) an (ji N)
def zwn (N : Nat) : Ent qP := zK (zc qP) zf (zwo N) 71 Tryz.f71 Tryz.func71 zhy N (zqn N) (l := [(8, zb 8 zwm)]) (al (zlu N) an) (zsg N)
def zb2 : Nat -> Keep × Keep := anL [(4, ⟨[5], [], [], [(0, 9), (1, 9)], [], [], [], [], false, none, []⟩, qK [4] [] []), (12, ⟨[5, 6], [], [], [(0, 9), (1, 9)], [], [], [], [], false, none, []⟩, ⟨[4, 5], [], [], [(0, 9), (1, 9)], [], [], [], [], false, none, []⟩)]
def zsl (N : Nat) : List (Ent qP) := []
def Zz (N : Nat) : LSpec where
 X := qL × qL × Int × Int
 Y := (qL × qL × Bool × Int) ⊕ (qL × qL × Int)
 dt := .mk 28 0 (zb2 12).1.toks [(0, .lst 9), (1, .lst 9), (5, .int .i64), (6, .int .i64)] [] rfl
 od := .mk 28 0 (zb2 12).2.toks [⟨.ret, [(0, .lst 9), (1, .lst 9), (4, .bool), (5, .int .i64)], [], none⟩, ⟨.exit 2, [(0, .lst 9), (1, .lst 9), (5, .int .i64)], [], none⟩] rfl
 b := λ u12 α kn ke => (match (decide (u12.2.2.2 < (u12.2.1.length : Int))) with | true => (if 0 <= u12.2.2.1 then (match u12.1[u12.2.2.1.toNat]? with | some c1 => (match jI c1 with | some e2 => (if 0 <= u12.2.2.2 then (match u12.2.1[u12.2.2.2.toNat]? with | some c3 => (match jI c3 with | some e4 => (match (((e2.1 == e4.1) && ((e2.2.1 == e4.2.1) && ((e2.2.2.1 == e4.2.2.1) && ((e2.2.2.2.1 == e4.2.2.2.1) && true)))) && ((e2.2.2.2.2.1 == e4.2.2.2.2.1) && ((e2.2.2.2.2.2.1 == e4.2.2.2.2.2.1) && ((e2.2.2.2.2.2.2.1 == e4.2.2.2.2.2.2.1) && ((e2.2.2.2.2.2.2.2.1 == e4.2.2.2.2.2.2.2.1) && ((e2.2.2.2.2.2.2.2.2.1 == e4.2.2.2.2.2.2.2.2.1) && true)))))) with | true => (ke (.inl (u12.1, u12.2.1, true, u12.2.2.1))) | false => (kn (u12.1, u12.2.1, u12.2.2.1, (i64 (u12.2.2.2 + 1))))) | none => none) | none => none) else none) | none => none) | none => none) else none) | false => (ke (.inr (u12.1, u12.2.1, u12.2.2.1))))
abbrev zgi (N : Nat) (x : qL × qL × Int × Int) : Option ((qL × qL × Bool × Int) ⊕ (qL × qL × Int)) := (Zz N).L N x
def jj (N : Nat) : LSpec where
 X := qL × qL × Int
 Y := (Bool) ⊕ (Unit)
 dt := .mk 28 0 (zb2 4).1.toks [(0, .lst 9), (1, .lst 9), (5, .int .i64)] [] rfl
 od := .mk 28 0 (zb2 4).2.toks [⟨.ret, [(4, .bool)], [], none⟩, ⟨.exit 0, [], [], none⟩] rfl
 b := λ u4 α kn ke => (match (decide (u4.2.2 < (u4.1.length : Int))) with | true => (match zgi N (u4.1, u4.2.1, u4.2.2, 0) with | some y5 => (match y5 with | .inl z6 => (ke (.inl z6.2.2.1)) | .inr z7 => (kn (z7.1, z7.2.1, (i64 (z7.2.2 + 1))))) | none => none) | false => (ke (.inr ())))
abbrev zqp (N : Nat) (x : qL × qL × Int) : Option ((Bool) ⊕ (Unit)) := (jj N).L N x
def zsm (N : Nat) : FSpec where
 X := qL × qL
 Y := Bool
 ad := .mk [.lst 9, .lst 9] [] rfl
 ret := λ y => qR (AV.v (.bool y))
 t := λ x α k => (match zqp N (x.1, x.2, 0) with | some y8 => (match y8 with | .inl z9 => (k z9) | .inr z10 => (k false)) | none => none)
abbrev zsk (N : Nat) (x : qL × qL) : Option (Bool) := (zsm N).d x
def zlC (N : Nat) : List (Nat × LSpec) := [(4, jj N), (12, Zz N)]
def zlA : Code := Tryz.f74.body.getD .skip
theorem zdm (N : Nat) : Zb qP zb2 N (zlC N) 12 (zb 12 zlA) :=
 zC (zc qP) zf (zsl N) (l := []) an (Zz N)
theorem zlB (N : Nat) : Zb qP zb2 N (zlC N) 4 (zb 4 zlA) :=
 zC (zc qP) zf (zsl N) (l := [(12, zb 12 zlA)]) (al (zdm N) an) (jj N)
def zzS (N : Nat) : Ent qP := zK (zc qP) zf (zsl N) 74 Tryz.f74 Tryz.func74 zb2 N (zlC N) (l := [(4, zb 4 zlA), (12, zb 12 zlA)]) (al (zlB N) (al (zdm N) an)) (zsm N)
def zbQ : Nat -> Keep × Keep := anL [(4, ⟨[3], [], [], [(0, 25)], [], [], [], [], false, none, []⟩, qK [2] [] []), (17, ⟨[3, 5], [], [], [(0, 25), (4, 9)], [], [], [], [], false, none, []⟩, ⟨[2, 3], [], [], [(0, 25)], [], [], [], [], false, none, []⟩)]
def zrS (N : Nat) : List (Ent qP) := [zzP N, zzQ N, zwn N, zwq N, zzS N]
def Zw (N : Nat) : LSpec where
 X := qL × qL × Int × Int
 Y := (qL × Bool × Int) ⊕ (qL × Int)
 dt := .mk 70 0 (zbQ 17).1.toks [(0, .lst 25), (4, .lst 9), (3, .int .i64), (5, .int .i64)] [] rfl
 od := .mk 70 0 (zbQ 17).2.toks [⟨.ret, [(0, .lst 25), (2, .bool), (3, .int .i64)], [], none⟩, ⟨.exit 2, [(0, .lst 25), (3, .int .i64)], [], none⟩] rfl
 b := λ u17 α kn ke => (match (decide (u17.2.2.2 < u17.2.2.1)) with | true => (if 0 <= u17.2.2.2 then (match u17.1[u17.2.2.2.toNat]? with | some c14 => (match ((c14.drop 9).drop 0)[0]? with | some x15 => (match ZW 9 x15 with | some l16 => (match zsk N (u17.2.1, l16) with | some y17 => (match y17 with | true => (ke (.inl (u17.1, false, u17.2.2.1))) | false => (kn (u17.1, u17.2.1, u17.2.2.1, (i64 (u17.2.2.2 + 1))))) | none => none) | none => none) | none => none) | none => none) else none) | false => (ke (.inr (u17.1, u17.2.2.1))))
abbrev zbR (N : Nat) (x : qL × qL × Int × Int) : Option ((qL × Bool × Int) ⊕ (qL × Int)) := (Zw N).L N x
def zW (N : Nat) : LSpec where
 X := qL × Int
 Y := (Bool) ⊕ (Unit)
 dt := .mk 70 0 (zbQ 4).1.toks [(0, .lst 25), (3, .int .i64)] [] rfl
 od := .mk 70 0 (zbQ 4).2.toks [⟨.ret, [(2, .bool)], [], none⟩, ⟨.exit 0, [], [], none⟩] rfl
 b := λ u4 α kn ke => (match (decide (u4.2 < (u4.1.length : Int))) with | true => (if 0 <= u4.2 then (match u4.1[u4.2.toNat]? with | some c1 => (match ((c1.drop 9).drop 0)[0]? with | some x2 => (match ZW 9 x2 with | some l3 => (match ((l3.length : Int) == 0) with | true => (ke (.inl false)) | false => (if 0 <= u4.2 then (match u4.1[u4.2.toNat]? with | some c4 => (match jI (c4.drop 0) with | some e5 => (match znS N l3 with | some y6 => (match (!(((e5.1 == y6.1) && ((e5.2.1 == y6.2.1) && ((e5.2.2.1 == y6.2.2.1) && ((e5.2.2.2.1 == y6.2.2.2.1) && true)))) && ((e5.2.2.2.2.1 == y6.2.2.2.2.1) && ((e5.2.2.2.2.2.1 == y6.2.2.2.2.2.1) && ((e5.2.2.2.2.2.2.1 == y6.2.2.2.2.2.2.1) && ((e5.2.2.2.2.2.2.2.1 == y6.2.2.2.2.2.2.2.1) && ((e5.2.2.2.2.2.2.2.2.1 == y6.2.2.2.2.2.2.2.2.1) && true))))))) with | true => (ke (.inl false)) | false => (match znT N l3 with | some y7 => (match zgh N (l3, y7) with | some y8 => (match (!y8) with | true => (ke (.inl false)) | false => (match (decide (u4.2 > 0)) with | true => (if 0 <= (i64 (u4.2 - 1)) then (match u4.1[(i64 (u4.2 - 1)).toNat]? with | some c9 => (match jI (c9.drop 0) with | some e10 => (if 0 <= u4.2 then (match u4.1[u4.2.toNat]? with | some c11 => (match jI (c11.drop 0) with | some e12 => (match zlz N (e10, e12) with | some y13 => (match (decide (y13 >= 0)) with | true => (ke (.inl false)) | false => (match zbR N (u4.1, l3, u4.2, 0) with | some y18 => (match y18 with | .inl z19 => (ke (.inl z19.2.1)) | .inr z20 => (kn (z20.1, (i64 (z20.2 + 1))))) | none => none)) | none => none) | none => none) | none => none) else none) | none => none) | none => none) else none) | false => (match zbR N (u4.1, l3, u4.2, 0) with | some y21 => (match y21 with | .inl z22 => (ke (.inl z22.2.1)) | .inr z23 => (kn (z23.1, (i64 (z23.2 + 1))))) | none => none))) | none => none) | none => none)) | none => none) | none => none) | none => none) else none)) | none => none) | none => none) | none => none) else none) | false => (ke (.inr ())))
abbrev zkP (N : Nat) (x : qL × Int) : Option ((Bool) ⊕ (Unit)) := (zW N).L N x
def znC (N : Nat) : FSpec where
 X := qL
 Y := Bool
 ad := .mk [.lst 25] [] rfl
 ret := λ y => qR (AV.v (.bool y))
 t := λ x α k => (match zkP N (x, 0) with | some y24 => (match y24 with | .inl z25 => (k z25) | .inr z26 => (k true)) | none => none)
abbrev Jk (N : Nat) (x : qL) : Option (Bool) := (znC N).d x
def zkR (N : Nat) : List (Nat × LSpec) := [(4, zW N), (17, Zw N)]
def zkO : Code := Tryz.f39.body.getD .skip
theorem zdi (N : Nat) : Zb qP zbQ N (zkR N) 17 (zb 17 zkO) :=
 zC (zc qP) zf (zrS N) (l := []) an (Zw N)
theorem zkQ (N : Nat) : Zb qP zbQ N (zkR N) 4 (zb 4 zkO) :=
 zC (zc qP) zf (zrS N) (l := [(17, zb 17 zkO)]) (al (zdi N) an) (zW N)
def zrR (N : Nat) : Ent qP := zK (zc qP) zf (zrS N) 39 Tryz.f39 Tryz.func39 zbQ N (zkR N) (l := [(4, zb 4 zkO), (17, zb 17 zkO)]) (al (zkQ N) (al (zdi N) an)) (znC N)
abbrev RK6 : List Ck := [.sl 29]
abbrev RT6 : Type := qL × Unit
def ze2 (c : List AV) : Option RT6 := dec RK6 c
abbrev RK7 : List Ck := [.int .i64, .int .i64, .str, .int .i64, .str, .str, .str, .str, .int .i64, .int .i64, .int .i64, .int .i64, .int .i64, .sl 9, .int .i64, .int .i64, .int .i64, .int .i64, .int .i64, .int .i64, .int .i64, .int .i64, .int .i64, .int .i64, .int .i64, .int .i64, .int .i64, .int .i64, .int .i64]
abbrev RT7 : Type := Int × Int × ByteArray × Int × ByteArray × ByteArray × ByteArray × ByteArray × Int × Int × Int × Int × Int × qL × Int × Int × Int × Int × Int × Int × Int × Int × Int × Int × Int × Int × Int × Int × Int × Unit
def zgs (c : List AV) : Option RT7 := dec RK7 c
def zp (e : RT7) : List AV := enc RK7 e
theorem zsH (e : RT7) : zgs (zp e) = some e := zbA (ks := RK7) e rfl
theorem JG (e : RT7) : (zp e).length = 29 := zen (ks := RK7) e
@[reducible] def zm (e : RT7) : RT0 := (e.2.2.2.2)
def zwj : Nat -> Keep × Keep := anL []
def zzO (N : Nat) : List (Ent qP) := []
def zse (N : Nat) : FSpec where
 X := RT7
 Y := Bool
 ad := .mk [.agg RK7] [] rfl
 ret := λ y => qR (AV.v (.bool y))
 t := λ x α k => (match (x.1 == 1) with | true => (k true) | false => (match (x.1 == 2) with | true => (k true) | false => (k (x.1 == 6))))
abbrev zgg (N : Nat) (x : RT7) : Option (Bool) := (zse N).d x
def zsd (N : Nat) : Ent qP := zK (zc qP) zf (zzO N) 68 Tryz.f68 Tryz.func68 zwj N [] (l := []) an (zse N)
def zwW : Nat -> Keep × Keep := anL []
def zAm (N : Nat) : List (Ent qP) := [zsd N]
def zsE (N : Nat) : FSpec where
 X := RT7 × RT7
 Y := Bool
 ad := .mk [.agg RK7, .agg RK7] [] rfl
 ret := λ y => qR (AV.v (.bool y))
 t := λ x α k => (match (x.1.1 == 1) with | true => (match zgg N x.2 with | some y1 => (k y1) | none => none) | false => (match (x.1.1 == 2) with | true => (match (x.2.1 == 1) with | true => (k true) | false => (k (x.2.1 == 6))) | false => (match (x.1.1 == 6) with | true => (match zgg N x.2 with | some y2 => (k (!y2)) | none => none) | false => (k true))))
abbrev zgq (N : Nat) (x : RT7 × RT7) : Option (Bool) := (zsE N).d x
def zAl (N : Nat) : Ent qP := zK (zc qP) zf (zAm N) 93 Tryz.f93 Tryz.func93 zwW N [] (l := []) an (zsE N)
def zwK : Nat -> Keep × Keep := anL []
def zAa (N : Nat) : List (Ent qP) := []
def zsv (N : Nat) : FSpec where
 X := Int
 Y := Bool
 ad := .mk [.int .i64] [] rfl
 ret := λ y => qR (AV.v (.bool y))
 t := λ x α k => (match (x != 1) with | true => (k (x != 3)) | false => (k false))
abbrev ze1 (N : Nat) (x : Int) : Option (Bool) := (zsv N).d x
def zwL (N : Nat) : Ent qP := zK (zc qP) zf (zAa N) 85 Tryz.f85 Tryz.func85 zwK N [] (l := []) an (zsv N)
def zwb : Nat -> Keep × Keep := anL []
def zzG (N : Nat) : List (Ent qP) := [zwn N]
def zr8 (N : Nat) : FSpec where
 X := RT3 × RT3
 Y := Bool
 ad := .mk [.agg RK3, .agg RK3] [] rfl
 ret := λ y => qR (AV.v (.bool y))
 t := λ x α k => (match zgh N (x.1.1, x.2.1) with | some y1 => (match y1 with | true => (match (((x.1.2.1 == x.2.2.1) && ((x.1.2.2.1 == x.2.2.2.1) && ((x.1.2.2.2.1 == x.2.2.2.2.1) && true))) && ((x.1.2.2.2.2.1 == x.2.2.2.2.2.1) && ((x.1.2.2.2.2.2.1 == x.2.2.2.2.2.2.1) && ((x.1.2.2.2.2.2.2.1 == x.2.2.2.2.2.2.2.1) && ((((x.1.2.2.2.2.2.2.2.1 == x.2.2.2.2.2.2.2.2.1) && ((x.1.2.2.2.2.2.2.2.2.1 == x.2.2.2.2.2.2.2.2.2.1) && ((x.1.2.2.2.2.2.2.2.2.2.1 == x.2.2.2.2.2.2.2.2.2.2.1) && true))) && (((x.1.2.2.2.2.2.2.2.2.2.2.1 == x.2.2.2.2.2.2.2.2.2.2.2.1) && ((x.1.2.2.2.2.2.2.2.2.2.2.2.1 == x.2.2.2.2.2.2.2.2.2.2.2.2.1) && ((x.1.2.2.2.2.2.2.2.2.2.2.2.2.1 == x.2.2.2.2.2.2.2.2.2.2.2.2.2.1) && true))) && true)) && true))))) with | true => (match ((x.1.2.2.2.2.2.2.2.2.2.2.2.2.2.1 == x.2.2.2.2.2.2.2.2.2.2.2.2.2.2.1) && ((x.1.2.2.2.2.2.2.2.2.2.2.2.2.2.2.1 == x.2.2.2.2.2.2.2.2.2.2.2.2.2.2.2.1) && true)) with | true => (k (x.1.2.2.2.2.2.2.2.2.2.2.2.2.2.2.2.1 == x.2.2.2.2.2.2.2.2.2.2.2.2.2.2.2.2.1)) | false => (k false)) | false => (k false)) | false => (k false)) | none => none)
abbrev zr7 (N : Nat) (x : RT3 × RT3) : Option (Bool) := (zr8 N).d x
def zzF (N : Nat) : Ent qP := zK (zc qP) zf (zzG N) 58 Tryz.f58 Tryz.func58 zwb N [] (l := []) an (zr8 N)
def zvY : Nat -> Keep × Keep := anL []
def zzx (N : Nat) : List (Ent qP) := [zzF N]
def zr1 (N : Nat) : FSpec where
 X := RT0 × RT0
 Y := Bool
 ad := .mk [.agg RK0, .agg RK0] [] rfl
 ret := λ y => qR (AV.v (.bool y))
 t := λ x α k => (match (((x.1.1 == x.2.1) && ((x.1.2.1 == x.2.2.1) && ((x.1.2.2.1 == x.2.2.2.1) && ((x.1.2.2.2.1 == x.2.2.2.2.1) && true)))) && ((x.1.2.2.2.2.1 == x.2.2.2.2.2.1) && ((x.1.2.2.2.2.2.1 == x.2.2.2.2.2.2.1) && ((x.1.2.2.2.2.2.2.1 == x.2.2.2.2.2.2.2.1) && ((x.1.2.2.2.2.2.2.2.1 == x.2.2.2.2.2.2.2.2.1) && ((x.1.2.2.2.2.2.2.2.2.1 == x.2.2.2.2.2.2.2.2.2.1) && true)))))) with | true => (match zr7 N ((zt x.1), (zt x.2)) with | some y1 => (k y1) | none => none) | false => (k false))
abbrev zaH (N : Nat) (x : RT0 × RT0) : Option (Bool) := (zr1 N).d x
def zr0 (N : Nat) : Ent qP := zK (zc qP) zf (zzx N) 49 Tryz.f49 Tryz.func49 zvY N [] (l := []) an (zr1 N)
def zbZ : Nat -> Keep × Keep := anL [(4, qK [1, 2, 3, 7] [] [3], qK [3, 6] [] [3]), (16, ⟨[1, 2, 3, 7, 8], [], [3, 8], [], [], [], [], [], true, none, []⟩, qK [1, 2, 3, 6, 7, 8] [] [3, 8])]
def zr9 (N : Nat) : List (Ent qP) := [zrR N, zwI N, zAl N, zwL N, zr0 N]
def ZG (N : Nat) : LSpec where
 X := Int × Int × Int × qL × RT7
 Y := (Int × Int × Bool × Int × qL × RT7) ⊕ (Int × Int × Int × qL × RT7)
 dt := .mk 147 0 (zbZ 16).1.toks [(1, .int .i64), (2, .int .i64), (3, .ptr 3 0), (7, .int .i64), (8, .ptr 8 0)] [(3, .cells [.lst 29]), (8, .row RK7)] rfl
 od := .mk 147 0 (zbZ 16).2.toks [⟨.ret, [(1, .int .i64), (2, .int .i64), (3, .ptr 3 0), (6, .bool), (7, .int .i64), (8, .ptr 8 0)], [(3, .cells [.lst 29]), (8, .row RK7)], none⟩, ⟨.normal, [(1, .int .i64), (2, .int .i64), (3, .ptr 3 0), (7, .int .i64), (8, .ptr 8 0)], [(3, .cells [.lst 29]), (8, .row RK7)], none⟩] rfl
 b := λ u16 α kn ke => (match (u16.2.2.2.2.1 == 1) with | true => (match (!(u16.2.2.2.2.2.2.1.toList == (⟨#[]⟩ : ByteArray).toList)) with | true => (ke (.inl (u16.1, u16.2.1, false, u16.2.2))) | false => (ke (.inr u16))) | false => (match (u16.2.2.2.2.1 == 2) with | true => (match (!(u16.2.2.2.2.2.2.1.toList == (⟨#[]⟩ : ByteArray).toList)) with | true => (ke (.inl (u16.1, u16.2.1, false, u16.2.2))) | false => (match (!(u16.2.2.2.2.1 == 2)) with | true => (match zgp N u16.2.2.2.2.2.2.1 with | some y8 => (match (!y8) with | true => (ke (.inl (u16.1, u16.2.1, false, u16.2.2))) | false => (ke (.inr u16))) | none => none) | false => (ke (.inr u16)))) | false => (match (!(u16.2.2.2.2.1 == 2)) with | true => (match zgp N u16.2.2.2.2.2.2.1 with | some y9 => (match (!y9) with | true => (ke (.inl (u16.1, u16.2.1, false, u16.2.2))) | false => (ke (.inr u16))) | none => none) | false => (ke (.inr u16)))))
abbrev zb0 (N : Nat) (x : Int × Int × Int × qL × RT7) : Option ((Int × Int × Bool × Int × qL × RT7) ⊕ (Int × Int × Int × qL × RT7)) := (ZG N).L N x
def zF (N : Nat) : LSpec where
 X := Int × Int × Int × qL
 Y := (Bool × qL) ⊕ (qL)
 dt := .mk 147 0 (zbZ 4).1.toks [(1, .int .i64), (2, .int .i64), (3, .ptr 3 0), (7, .int .i64)] [(3, .cells [.lst 29])] rfl
 od := .mk 147 0 (zbZ 4).2.toks [⟨.ret, [(3, .ptr 3 0), (6, .bool)], [(3, .cells [.lst 29])], none⟩, ⟨.exit 0, [(3, .ptr 3 0)], [(3, .cells [.lst 29])], none⟩] rfl
 b := λ u4 α kn ke => (match (decide (u4.2.2.1 < (u4.2.2.2.length : Int))) with | true => (if 0 <= u4.2.2.1 then (match u4.2.2.2[u4.2.2.1.toNat]? with | some c33 => (match zgs c33 with | some e34 => (match (decide (e34.1 < 1)) with | true => (ke (.inl (false, u4.2.2.2))) | false => (match (decide (e34.1 > 6)) with | true => (ke (.inl (false, u4.2.2.2))) | false => (match (decide (e34.2.1 < 0)) with | true => (ke (.inl (false, u4.2.2.2))) | false => (match (decide (e34.2.1 > 18014398509481984)) with | true => (ke (.inl (false, u4.2.2.2))) | false => (match Jk N ([(zu (zm e34))]) with | some y35 => (match (!y35) with | true => (ke (.inl (false, u4.2.2.2))) | false => (match zb0 N (u4.1, u4.2.1, u4.2.2.1, u4.2.2.2, e34) with | some y36 => (match y36 with | .inl z37 => (ke (.inl (z37.2.2.1, z37.2.2.2.2.1))) | .inr z38 => (match (z38.2.2.2.2.1 != 5) with | true => (match (z38.2.2.2.2.2.2.2.1 != 0) with | true => (ke (.inl (false, z38.2.2.2.1))) | false => (match (z38.2.2.2.2.1 == 5) with | true => (match (decide (z38.2.2.2.2.2.2.2.1 < 0)) with | true => (ke (.inl (false, z38.2.2.2.1))) | false => (match (decide (z38.2.2.2.2.2.2.2.1 >= z38.2.1)) with | true => (ke (.inl (false, z38.2.2.2.1))) | false => (match (z38.2.2.2.2.2.2.2.1 == z38.1) with | true => (ke (.inl (false, z38.2.2.2.1))) | false => (match (z38.2.2.1 == 0) with | true => (match (z38.2.2.2.2.1 != 1) with | true => (ke (.inl (false, z38.2.2.2.1))) | false => (kn (z38.1, z38.2.1, (i64 (z38.2.2.1 + 1)), z38.2.2.2.1))) | false => (if 0 <= (i64 (z38.2.2.1 - 1)) then (match z38.2.2.2.1[(i64 (z38.2.2.1 - 1)).toNat]? with | some c39 => (match zgs c39 with | some e40 => (match (decide (z38.2.2.2.2.2.1 < e40.2.1)) with | true => (ke (.inl (false, z38.2.2.2.1))) | false => (match zgq N (z38.2.2.2.2, e40) with | some y41 => (match (!y41) with | true => (ke (.inl (false, z38.2.2.2.1))) | false => (match ze1 N z38.2.2.2.2.1 with | some y42 => (match y42 with | true => (match zaH N ((zm e40), (zm z38.2.2.2.2)) with | some y43 => (match (!y43) with | true => (ke (.inl (false, z38.2.2.2.1))) | false => (kn (z38.1, z38.2.1, (i64 (z38.2.2.1 + 1)), z38.2.2.2.1))) | none => none) | false => (kn (z38.1, z38.2.1, (i64 (z38.2.2.1 + 1)), z38.2.2.2.1))) | none => none)) | none => none)) | none => none) | none => none) else none))))) | false => (match (z38.2.2.1 == 0) with | true => (match (z38.2.2.2.2.1 != 1) with | true => (ke (.inl (false, z38.2.2.2.1))) | false => (kn (z38.1, z38.2.1, (i64 (z38.2.2.1 + 1)), z38.2.2.2.1))) | false => (if 0 <= (i64 (z38.2.2.1 - 1)) then (match z38.2.2.2.1[(i64 (z38.2.2.1 - 1)).toNat]? with | some c44 => (match zgs c44 with | some e45 => (match (decide (z38.2.2.2.2.2.1 < e45.2.1)) with | true => (ke (.inl (false, z38.2.2.2.1))) | false => (match zgq N (z38.2.2.2.2, e45) with | some y46 => (match (!y46) with | true => (ke (.inl (false, z38.2.2.2.1))) | false => (match ze1 N z38.2.2.2.2.1 with | some y47 => (match y47 with | true => (match zaH N ((zm e45), (zm z38.2.2.2.2)) with | some y48 => (match (!y48) with | true => (ke (.inl (false, z38.2.2.2.1))) | false => (kn (z38.1, z38.2.1, (i64 (z38.2.2.1 + 1)), z38.2.2.2.1))) | none => none) | false => (kn (z38.1, z38.2.1, (i64 (z38.2.2.1 + 1)), z38.2.2.2.1))) | none => none)) | none => none)) | none => none) | none => none) else none)))) | false => (match (z38.2.2.2.2.1 == 5) with | true => (match (decide (z38.2.2.2.2.2.2.2.1 < 0)) with | true => (ke (.inl (false, z38.2.2.2.1))) | false => (match (decide (z38.2.2.2.2.2.2.2.1 >= z38.2.1)) with | true => (ke (.inl (false, z38.2.2.2.1))) | false => (match (z38.2.2.2.2.2.2.2.1 == z38.1) with | true => (ke (.inl (false, z38.2.2.2.1))) | false => (match (z38.2.2.1 == 0) with | true => (match (z38.2.2.2.2.1 != 1) with | true => (ke (.inl (false, z38.2.2.2.1))) | false => (kn (z38.1, z38.2.1, (i64 (z38.2.2.1 + 1)), z38.2.2.2.1))) | false => (if 0 <= (i64 (z38.2.2.1 - 1)) then (match z38.2.2.2.1[(i64 (z38.2.2.1 - 1)).toNat]? with | some c49 => (match zgs c49 with | some e50 => (match (decide (z38.2.2.2.2.2.1 < e50.2.1)) with | true => (ke (.inl (false, z38.2.2.2.1))) | false => (match zgq N (z38.2.2.2.2, e50) with | some y51 => (match (!y51) with | true => (ke (.inl (false, z38.2.2.2.1))) | false => (match ze1 N z38.2.2.2.2.1 with | some y52 => (match y52 with | true => (match zaH N ((zm e50), (zm z38.2.2.2.2)) with | some y53 => (match (!y53) with | true => (ke (.inl (false, z38.2.2.2.1))) | false => (kn (z38.1, z38.2.1, (i64 (z38.2.2.1 + 1)), z38.2.2.2.1))) | none => none) | false => (kn (z38.1, z38.2.1, (i64 (z38.2.2.1 + 1)), z38.2.2.2.1))) | none => none)) | none => none)) | none => none) | none => none) else none))))) | false => (match (z38.2.2.1 == 0) with | true => (match (z38.2.2.2.2.1 != 1) with | true => (ke (.inl (false, z38.2.2.2.1))) | false => (kn (z38.1, z38.2.1, (i64 (z38.2.2.1 + 1)), z38.2.2.2.1))) | false => (if 0 <= (i64 (z38.2.2.1 - 1)) then (match z38.2.2.2.1[(i64 (z38.2.2.1 - 1)).toNat]? with | some c54 => (match zgs c54 with | some e55 => (match (decide (z38.2.2.2.2.2.1 < e55.2.1)) with | true => (ke (.inl (false, z38.2.2.2.1))) | false => (match zgq N (z38.2.2.2.2, e55) with | some y56 => (match (!y56) with | true => (ke (.inl (false, z38.2.2.2.1))) | false => (match ze1 N z38.2.2.2.2.1 with | some y57 => (match y57 with | true => (match zaH N ((zm e55), (zm z38.2.2.2.2)) with | some y58 => (match (!y58) with | true => (ke (.inl (false, z38.2.2.2.1))) | false => (kn (z38.1, z38.2.1, (i64 (z38.2.2.1 + 1)), z38.2.2.2.1))) | none => none) | false => (kn (z38.1, z38.2.1, (i64 (z38.2.2.1 + 1)), z38.2.2.2.1))) | none => none)) | none => none)) | none => none) | none => none) else none))))) | none => none)) | none => none))))) | none => none) | none => none) else none) | false => (ke (.inr u4.2.2.2)))
abbrev zll (N : Nat) (x : Int × Int × Int × qL) : Option ((Bool × qL) ⊕ (qL)) := (zF N).L N x
def znP (N : Nat) : FSpec where
 X := qL × Int × Int
 Y := Bool
 ad := .mk [.ags [.sl 29], .int .i64, .int .i64] [] rfl
 ret := λ y => qR (AV.v (.bool y))
 t := λ x α k => (match zll N (x.2.1, x.2.2, 0, x.1) with | some y59 => (match y59 with | .inl z60 => (k z60.1) | .inr z61 => (match (decide ((z61.length : Int) >= 1)) with | true => (k (decide ((z61.length : Int) <= 100))) | false => (k false))) | none => none)
abbrev zlk (N : Nat) (x : qL × Int × Int) : Option (Bool) := (znP N).d x
def zln (N : Nat) : List (Nat × LSpec) := [(4, zF N), (16, ZG N)]
def zlj : Code := Tryz.f60.body.getD .skip
theorem zdk (N : Nat) : Zb qP zbZ N (zln N) 16 (zb 16 zlj) :=
 Jw (zc qP) zf (zr9 N) (l := []) an (ZG N)
theorem zlm (N : Nat) : Zb qP zbZ N (zln N) 4 (zb 4 zlj) :=
 zC (zc qP) zf (zr9 N) (l := [(16, zb 16 zlj)]) (al (zdk N) an) (zF N)
def zzK (N : Nat) : Ent qP := zK (zc qP) zf (zr9 N) 60 Tryz.f60 Tryz.func60 zbZ N (zln N) (l := [(4, zb 4 zlj), (16, zb 16 zlj)]) (al (zlm N) (al (zdk N) an)) (znP N)
def zhk : Nat -> Keep × Keep := anL [(4, qK [1, 3] [] [1], qK [1, 2] [] [1])]
def zvF (N : Nat) : List (Ent qP) := [zzK N]
def Zl (N : Nat) : LSpec where
 X := Int × qL
 Y := (Bool × qL) ⊕ (qL)
 dt := .mk 26 0 (zhk 4).1.toks [(1, .ptr 1 0), (3, .int .i64)] [(1, .cells [.lst 1])] rfl
 od := .mk 26 0 (zhk 4).2.toks [⟨.ret, [(1, .ptr 1 0), (2, .bool)], [(1, .cells [.lst 1])], none⟩, ⟨.exit 0, [(1, .ptr 1 0)], [(1, .cells [.lst 1])], none⟩] rfl
 b := λ u4 α kn ke => (match (decide (u4.1 < (u4.2.length : Int))) with | true => (if 0 <= u4.1 then (match u4.2[u4.1.toNat]? with | some c4 => (match ze2 c4 with | some e5 => (match zlk N (e5.1, u4.1, (u4.2.length : Int)) with | some y6 => (match (!y6) with | true => (ke (.inl (false, u4.2))) | false => (kn ((i64 (u4.1 + 1)), u4.2))) | none => none) | none => none) | none => none) else none) | false => (ke (.inr u4.2)))
abbrev zkI (N : Nat) (x : Int × qL) : Option ((Bool × qL) ⊕ (qL)) := (Zl N).L N x
def znA (N : Nat) : FSpec where
 X := qL
 Y := Bool
 ad := .mk [.ags [.sl 1]] [] rfl
 ret := λ y => qR (AV.v (.bool y))
 t := λ x α k => (match zkI N (0, x) with | some y7 => (match y7 with | .inl z8 => (k z8.1) | .inr z9 => (k (decide ((z9.length : Int) <= 500)))) | none => none)
abbrev ziP (N : Nat) (x : qL) : Option (Bool) := (znA N).d x
def zp5 (N : Nat) : List (Nat × LSpec) := [(4, Zl N)]
def zvD : Code := Tryz.f32.body.getD .skip
theorem zkJ (N : Nat) : Zb qP zhk N (zp5 N) 4 (zb 4 zvD) :=
 zC (zc qP) zf (zvF N) (l := []) an (Zl N)
def zvE (N : Nat) : Ent qP := zK (zc qP) zf (zvF N) 32 Tryz.f32 Tryz.func32 zhk N (zp5 N) (l := [(4, zb 4 zvD)]) (al (zkJ N) an) (znA N)
def zhz : Nat -> Keep × Keep := anL [(4, ⟨[3, 5], [], [3], [(0, 25)], [], [], [], [], false, none, []⟩, qK [4] [] [])]
def zwC (N : Nat) : List (Ent qP) := []
def jk (N : Nat) : LSpec where
 X := qL × Int × RT1
 Y := (Int) ⊕ (Unit)
 dt := .mk 20 0 (zhz 4).1.toks [(0, .lst 25), (3, .ptr 3 0), (5, .int .i64)] [(3, .row RK1)] rfl
 od := .mk 20 0 (zhz 4).2.toks [⟨.ret, [(4, .int .i64)], [], none⟩, ⟨.exit 0, [], [], none⟩] rfl
 b := λ u4 α kn ke => (match (decide (u4.2.1 < (u4.1.length : Int))) with | true => (if 0 <= u4.2.1 then (match u4.1[u4.2.1.toNat]? with | some c1 => (match jI (c1.drop 0) with | some e2 => (match (((e2.1 == u4.2.2.1) && ((e2.2.1 == u4.2.2.2.1) && ((e2.2.2.1 == u4.2.2.2.2.1) && ((e2.2.2.2.1 == u4.2.2.2.2.2.1) && true)))) && ((e2.2.2.2.2.1 == u4.2.2.2.2.2.2.1) && ((e2.2.2.2.2.2.1 == u4.2.2.2.2.2.2.2.1) && ((e2.2.2.2.2.2.2.1 == u4.2.2.2.2.2.2.2.2.1) && ((e2.2.2.2.2.2.2.2.1 == u4.2.2.2.2.2.2.2.2.2.1) && ((e2.2.2.2.2.2.2.2.2.1 == u4.2.2.2.2.2.2.2.2.2.2.1) && true)))))) with | true => (ke (.inl u4.2.1)) | false => (kn (u4.1, (i64 (u4.2.1 + 1)), u4.2.2))) | none => none) | none => none) else none) | false => (ke (.inr ())))
abbrev zqu (N : Nat) (x : qL × Int × RT1) : Option ((Int) ⊕ (Unit)) := (jk N).L N x
def zsq (N : Nat) : FSpec where
 X := qL × RT1
 Y := Int
 ad := .mk [.lst 25, .agg RK1] [] rfl
 ret := λ y => qR (AV.v (.int .i64 y))
 t := λ x α k => (match zqu N (x.1, 0, x.2) with | some y3 => (match y3 with | .inl z4 => (k z4) | .inr z5 => (k (-1))) | none => none)
abbrev znW (N : Nat) (x : qL × RT1) : Option (Int) := (zsq N).d x
def zqv (N : Nat) : List (Nat × LSpec) := [(4, jk N)]
def zwB : Code := Tryz.f79.body.getD .skip
theorem zlJ (N : Nat) : Zb qP zhz N (zqv N) 4 (zb 4 zwB) :=
 zC (zc qP) zf (zwC N) (l := []) an (jk N)
def zz1 (N : Nat) : Ent qP := zK (zc qP) zf (zwC N) 79 Tryz.f79 Tryz.func79 zhz N (zqv N) (l := [(4, zb 4 zwB)]) (al (zlJ N) an) (zsq N)
def zwf : Nat -> Keep × Keep := anL []
def zzN (N : Nat) : List (Ent qP) := []
def zsc (N : Nat) : FSpec where
 X := qL
 Y := RT7
 ad := .mk [.ags [.sl 29]] [] rfl
 S := ⟨[[none, none, none, none, none, none, none, none, none, none, none, none, none, some 9, none, none, none, none, none, none, none, none, none, none, none, none, none, none, none]], [], [], [], []⟩
 ret := λ y => qR (AV.agg (zp y))
 t := λ x α k => (if 0 <= (i64 ((x.length : Int) - 1)) then (match x[(i64 ((x.length : Int) - 1)).toNat]? with | some c1 => (match zgs c1 with | some e2 => (k e2) | none => none) | none => none) else none)
abbrev zgf (N : Nat) (x : qL) : Option (RT7) := (zsc N).d x
def znQ (N : Nat) : Ent qP := zK (zc qP) zf (zzN N) 66 Tryz.f66 Tryz.func66 zwf N [] (l := []) an (zsc N)
@[reducible] def zlX (e : RT7) : RT1 := (e.2.2.2.2.1, e.2.2.2.2.2.1, e.2.2.2.2.2.2.1, e.2.2.2.2.2.2.2.1, e.2.2.2.2.2.2.2.2.1, e.2.2.2.2.2.2.2.2.2.1, e.2.2.2.2.2.2.2.2.2.2.1, e.2.2.2.2.2.2.2.2.2.2.2.1, e.2.2.2.2.2.2.2.2.2.2.2.2.1, ())
def zb5 : Nat -> Keep × Keep := anL [(4, ⟨[5], [], [], [(0, 9), (1, 9)], [], [], [], [], false, none, []⟩, qK [4] [] []), (12, ⟨[5, 6], [], [], [(0, 9), (1, 9)], [], [], [], [], false, none, []⟩, ⟨[4, 5], [], [], [(0, 9), (1, 9)], [], [], [], [], false, none, []⟩)]
def zsr (N : Nat) : List (Ent qP) := []
def ZA (N : Nat) : LSpec where
 X := qL × qL × Int × Int
 Y := (qL × qL × Bool × Int) ⊕ (qL × qL × Int)
 dt := .mk 28 0 (zb5 12).1.toks [(0, .lst 9), (1, .lst 9), (5, .int .i64), (6, .int .i64)] [] rfl
 od := .mk 28 0 (zb5 12).2.toks [⟨.ret, [(0, .lst 9), (1, .lst 9), (4, .bool), (5, .int .i64)], [], none⟩, ⟨.exit 2, [(0, .lst 9), (1, .lst 9), (5, .int .i64)], [], none⟩] rfl
 b := λ u12 α kn ke => (match (decide (u12.2.2.2 < (u12.2.1.length : Int))) with | true => (if 0 <= u12.2.2.1 then (match u12.1[u12.2.2.1.toNat]? with | some c1 => (match jI c1 with | some e2 => (if 0 <= u12.2.2.2 then (match u12.2.1[u12.2.2.2.toNat]? with | some c3 => (match jI c3 with | some e4 => (match (((e2.1 == e4.1) && ((e2.2.1 == e4.2.1) && ((e2.2.2.1 == e4.2.2.1) && ((e2.2.2.2.1 == e4.2.2.2.1) && true)))) && ((e2.2.2.2.2.1 == e4.2.2.2.2.1) && ((e2.2.2.2.2.2.1 == e4.2.2.2.2.2.1) && ((e2.2.2.2.2.2.2.1 == e4.2.2.2.2.2.2.1) && ((e2.2.2.2.2.2.2.2.1 == e4.2.2.2.2.2.2.2.1) && ((e2.2.2.2.2.2.2.2.2.1 == e4.2.2.2.2.2.2.2.2.1) && true)))))) with | true => (ke (.inl (u12.1, u12.2.1, true, u12.2.2.1))) | false => (kn (u12.1, u12.2.1, u12.2.2.1, (i64 (u12.2.2.2 + 1))))) | none => none) | none => none) else none) | none => none) | none => none) else none) | false => (ke (.inr (u12.1, u12.2.1, u12.2.2.1))))
abbrev zgn (N : Nat) (x : qL × qL × Int × Int) : Option ((qL × qL × Bool × Int) ⊕ (qL × qL × Int)) := (ZA N).L N x
def jl (N : Nat) : LSpec where
 X := qL × qL × Int
 Y := (Bool) ⊕ (Unit)
 dt := .mk 28 0 (zb5 4).1.toks [(0, .lst 9), (1, .lst 9), (5, .int .i64)] [] rfl
 od := .mk 28 0 (zb5 4).2.toks [⟨.ret, [(4, .bool)], [], none⟩, ⟨.exit 0, [], [], none⟩] rfl
 b := λ u4 α kn ke => (match (decide (u4.2.2 < (u4.1.length : Int))) with | true => (match zgn N (u4.1, u4.2.1, u4.2.2, 0) with | some y5 => (match y5 with | .inl z6 => (ke (.inl z6.2.2.1)) | .inr z7 => (kn (z7.1, z7.2.1, (i64 (z7.2.2 + 1))))) | none => none) | false => (ke (.inr ())))
abbrev zqw (N : Nat) (x : qL × qL × Int) : Option ((Bool) ⊕ (Unit)) := (jl N).L N x
def zss (N : Nat) : FSpec where
 X := qL × qL
 Y := Bool
 ad := .mk [.lst 9, .lst 9] [] rfl
 ret := λ y => qR (AV.v (.bool y))
 t := λ x α k => (match zqw N (x.1, x.2, 0) with | some y8 => (match y8 with | .inl z9 => (k z9) | .inr z10 => (k false)) | none => none)
abbrev znX (N : Nat) (x : qL × qL) : Option (Bool) := (zss N).d x
def zlM (N : Nat) : List (Nat × LSpec) := [(4, jl N), (12, ZA N)]
def zlK : Code := Tryz.f80.body.getD .skip
theorem zdo (N : Nat) : Zb qP zb5 N (zlM N) 12 (zb 12 zlK) :=
 zC (zc qP) zf (zsr N) (l := []) an (ZA N)
theorem zlL (N : Nat) : Zb qP zb5 N (zlM N) 4 (zb 4 zlK) :=
 zC (zc qP) zf (zsr N) (l := [(12, zb 12 zlK)]) (al (zdo N) an) (jl N)
def zz6 (N : Nat) : Ent qP := zK (zc qP) zf (zsr N) 80 Tryz.f80 Tryz.func80 zb5 N (zlM N) (l := [(4, zb 4 zlK), (12, zb 12 zlK)]) (al (zlL N) (al (zdo N) an)) (zss N)
def zd1 : Nat -> Keep × Keep := anL [(4, ⟨[0, 1, 5], [], [0], [], [], [], [], [0], false, none, []⟩, ⟨[4], [], [0], [], [], [], [], [0], false, none, []⟩)]
def zqj (N : Nat) : List (Ent qP) := []
def Zy (N : Nat) : LSpec where
 X := Nat × Int × Int × qA
 Y := (Bool × qA) ⊕ (qA)
 dt := .mk 18 1 (zd1 4).1.toks [(0, .vs0 0 1), (1, .int .i64), (5, .int .i64)] [(0, .tt)] rfl
 od := .mk 18 1 (zd1 4).2.toks [⟨.ret, [(4, .bool)], [(0, .tt)], none⟩, ⟨.exit 0, [], [(0, .tt)], none⟩] rfl
 b := λ u4 α kn ke => (match (decide (u4.2.2.1 < ((u4.1 : Nat) : Int))) with | true => (if 0 <= u4.2.2.1 /\ u4.2.2.1 < (u4.1 : Int) then (match u4.2.2.2[((0 + u4.2.2.1.toNat) * 1)]? with | some x4 => (match x4 with | .v (.int q6 n5) => (if q6 = .i64 then (match (n5 == u4.2.1) with | true => (ke (.inl (true, (u4.2.2.2.map dat0)))) | false => (kn (u4.1, u4.2.1, (i64 (u4.2.2.1 + 1)), (u4.2.2.2.map dat0)))) else none) | _ => none) | none => none) else none) | false => (ke (.inr (u4.2.2.2.map dat0))))
abbrev zlq (N : Nat) (x : Nat × Int × Int × qA) : Option ((Bool × qA) ⊕ (qA)) := (Zy N).L N x
def zls (N : Nat) : FSpec where
 X := Nat × Int × qA
 Y := Bool × qA
 ad := .mk [.vs0 0 1, .int .i64] [.tt] rfl
 bsh := [[]]
 S := ⟨[[none]], [[]], [], [], [0]⟩
 ret := λ y => ⟨(AV.v (.bool y.1)), [y.2], none, [], [], [0], none⟩
 t := λ x α k => (match zlq N (x.1, x.2.1, 0, (x.2.2.map dat0)) with | some y7 => (match y7 with | .inl z8 => (k (z8.1, (z8.2.map dat0))) | .inr z9 => (k (false, (z9.map dat0)))) | none => none)
abbrev zeZ (N : Nat) (x : Nat × Int × qA) : Option (Bool × qA) := (zls N).d x
def zlr (N : Nat) : List (Nat × LSpec) := [(4, Zy N)]
def zqh : Code := Tryz.f69.body.getD .skip
theorem zi0 (N : Nat) : Zb qP zd1 N (zlr N) 4 (zb 4 zqh) :=
 zC (zc qP) zf (zqj N) (l := []) an (Zy N)
def zqi (N : Nat) : Ent qP := zK (zc qP) zf (zqj N) 69 Tryz.f69 Tryz.func69 zd1 N (zlr N) (l := [(4, zb 4 zqh)]) (al (zi0 N) an) (zls N)
def zhw : Nat -> Keep × Keep := anL [(4, qK [1, 2, 5] [] [2], qK [4] [] [])]
def zwi (N : Nat) : List (Ent qP) := [znQ N]
def Zm (N : Nat) : LSpec where
 X := Int × Int × qL
 Y := (Bool) ⊕ (Unit)
 dt := .mk 22 0 (zhw 4).1.toks [(1, .int .i64), (2, .ptr 2 0), (5, .int .i64)] [(2, .cells [.lst 1])] rfl
 od := .mk 22 0 (zhw 4).2.toks [⟨.ret, [(4, .bool)], [], none⟩, ⟨.exit 0, [], [], none⟩] rfl
 b := λ u4 α kn ke => (match (decide (u4.2.1 < (u4.2.2.length : Int))) with | true => (if 0 <= u4.2.1 then (match u4.2.2[u4.2.1.toNat]? with | some c1 => (match ze2 c1 with | some e2 => (match zgf N e2.1 with | some y3 => (match (decide (y3.2.1 > u4.1)) with | true => (ke (.inl false)) | false => (kn (u4.1, (i64 (u4.2.1 + 1)), u4.2.2))) | none => none) | none => none) | none => none) else none) | false => (ke (.inr ())))
abbrev zlo (N : Nat) (x : Int × Int × qL) : Option ((Bool) ⊕ (Unit)) := (Zm N).L N x
def znR (N : Nat) : FSpec where
 X := qL × Int
 Y := Bool
 ad := .mk [.ags [.sl 1], .int .i64] [] rfl
 ret := λ y => qR (AV.v (.bool y))
 t := λ x α k => (match zlo N (x.2, 0, x.1) with | some y4 => (match y4 with | .inl z5 => (k z5) | .inr z6 => (k true)) | none => none)
abbrev ziZ (N : Nat) (x : qL × Int) : Option (Bool) := (znR N).d x
def zqg (N : Nat) : List (Nat × LSpec) := [(4, Zm N)]
def zwg : Code := Tryz.f67.body.getD .skip
theorem zlp (N : Nat) : Zb qP zhw N (zqg N) 4 (zb 4 zwg) :=
 zC (zc qP) zf (zwi N) (l := []) an (Zm N)
def zwh (N : Nat) : Ent qP := zK (zc qP) zf (zwi N) 67 Tryz.f67 Tryz.func67 zhw N (zqg N) (l := [(4, zb 4 zwg)]) (al (zlp N) an) (znR N)
end
end
section
noncomputable section
open Go.RowKit
set_option maxRecDepth 4000
set_option maxHeartbeats 4000000
def zhq : Nat -> Keep × Keep := anL [(5, ⟨[1, 2, 3, 4], [], [1, 2, 3], [], [((2, 0), 1), ((3, 0), 1)], [], [], [], false, none, []⟩, ⟨[2, 3], [], [2, 3], [], [((2, 0), 1), ((3, 0), 1)], [], [], [], false, none, []⟩)]
def zvT (N : Nat) : List (Ent qP) := []
def zkZ (N : Nat) : LSpec where
 X := Int × qL × qL × qL
 Y := (qL × qL)
 dt := .mk 27 0 (zhq 5).1.toks [(1, .ptr 1 0), (2, .ptr 2 0), (3, .ptr 3 0), (4, .int .i64)] [(1, .cells [.lst 1]), (2, .cells [.tok 1 6400524288]), (3, .cells [.tok 1 6400786432])] rfl
 od := .mk 27 0 (zhq 5).2.toks [⟨.exit 0, [(2, .ptr 2 0), (3, .ptr 3 0)], [(2, .cells [.tok 1 6400524288]), (3, .cells [.tok 1 6400786432])], none⟩] rfl
 b := λ u5 α kn ke => (match (decide (u5.1 < (u5.2.1.length : Int))) with | true => (if 0 <= u5.1 then (match u5.2.1[u5.1.toNat]? with | some c4 => (match (c4.drop 0)[0]? with | some x5 => (match ZW 29 x5 with | some l6 => (if (([] : qL).length + l6.length) * 288 <= ze then (if (u5.2.2.2.length + [[(AV.list 29 (([] : qL) ++ l6) none)]].length) * 24 <= ze then (kn ((i64 (u5.1 + 1)), u5.2.1, u5.2.2.1, (u5.2.2.2 ++ [[(AV.list 29 (([] : qL) ++ l6) none)]]))) else none) else none) | none => none) | none => none) | none => none) else none) | false => (ke u5.2.2))
abbrev zvS (N : Nat) (x : Int × qL × qL × qL) : Option ((qL × qL)) := (zkZ N).L N x
def zzu (N : Nat) : FSpec where
 X := qL
 Y := qL
 ad := .mk [.ags [.sl 1]] [] rfl
 S := ⟨[[some 1]], [], [], [], []⟩
 ret := λ y => qR (AV.agg [(AV.list 1 y none)])
 t := λ x α k => (match zvS N (0, x, ([] : qL), ([] : qL)) with | some y7 => (k y7.2) | none => none)
def zqc (N : Nat) : List (Nat × LSpec) := [(5, zkZ N)]
def zvR : Code := Tryz.f44.body.getD .skip
theorem zk0 (N : Nat) : Zb qP zhq N (zqc N) 5 (zb 5 zvR) :=
 zC (zc qP) zf (zvT N) (l := []) an (zkZ N)
def zzt (N : Nat) : Ent qP := zK (zc qP) zf (zvT N) 44 Tryz.f44 Tryz.func44 zhq N (zqc N) (l := [(5, zb 5 zvR)]) (al (zk0 N) an) (zzu N)
def zdZ : Nat -> Keep × Keep := anL [(5, ⟨[1, 2, 3, 4], [], [1, 2, 3], [], [((2, 0), 1)], [], [((3, 0), 1)], [], false, some 2012288, []⟩, ⟨[2, 3], [], [2, 3], [], [((2, 0), 1)], [], [((3, 0), 1)], [], false, some 2012288, []⟩)]
def zqe (N : Nat) : List (Ent qP) := []
def Za (N : Nat) : LSpec where
 X := Int × qL × qL × Nat × qA × Nat × Nat
 Y := (qL × Nat × qA × Nat × Nat)
 dt := .fm 27 0 (zdZ 5).1.toks 2012288 [(1, .ptr 1 0), (2, .ptr 2 0), (3, .ptr 3 0), (4, .int .i64)] [(1, .cells [.lst 1]), (2, .cells [.tok 1 6400524288]), (3, .cells [.vs0 2012288 1]), (2012288, .tt)] rfl
 od := .mk 27 0 (zdZ 5).2.toks [⟨.exit 0, [(2, .ptr 2 0), (3, .ptr 3 0)], [(2, .cells [.tok 1 6400524288]), (3, .cells [.vs0 2012288 1]), (2012288, .tt)], some 2012288⟩] rfl
 b := λ u5 α kn ke => (match (decide (u5.1 < (u5.2.1.length : Int))) with | true => (if 0 <= u5.1 then (match u5.2.1[u5.1.toNat]? with | some c4 => (match (c4.drop 0)[0]? with | some x5 => (match ZW 29 x5 with | some l6 => (if (([] : qL).length + l6.length) * 288 <= ze then (if (u5.2.2.2.2.2.2 = u5.2.2.2.1 /\ u5.2.2.2.2.2.1 <= u5.2.2.2.2.2.2) /\ u5.2.2.2.1 * 1 <= u5.2.2.2.2.1.length /\ (u5.2.2.2.1 + 1) * 24 <= ze then (kn ((i64 (u5.1 + 1)), u5.2.1, u5.2.2.1, (u5.2.2.2.1 + 1), ((u5.2.2.2.2.1.take (u5.2.2.2.1 * 1) ++ [AV.list 29 (([] : qL) ++ l6) (some (TOB + u5.2.2.2.2.2.2))]).map datF), u5.2.2.2.2.2.1, (u5.2.2.2.2.2.2 + 1))) else none) else none) | none => none) | none => none) | none => none) else none) | false => (ke (u5.2.2.1, u5.2.2.2.1, (u5.2.2.2.2.1.map datF), u5.2.2.2.2.2)))
abbrev zgc (N : Nat) (x : Int × qL × qL × Nat × qA × Nat × Nat) : Option ((qL × Nat × qA × Nat × Nat)) := (Za N).L N x
def zhr (N : Nat) : FSpec where
 X := qL
 Y := Nat × qA × Nat × Nat
 ad := .mk [.ags [.sl 1]] [] rfl
 S := ⟨[[some 1]], [], [], [], []⟩
 bm := true
 ret := λ y => ⟨(AV.agg [(AV.vs 0 0 y.1 1)]), [], some y.2.1, [], [], [], some (y.2.2.1, y.2.2.2)⟩
 t := λ x α k => (match zgc N (0, x, ([] : qL), 0, ([] : List AV), 0, 0) with | some y7 => (k (y7.2.1, (y7.2.2.1.map datF), y7.2.2.2)) | none => none)
abbrev zbV (N : Nat) (x : qL) : Option (Nat × qA × Nat × Nat) := (zhr N).d x
def zk2 (N : Nat) : List (Nat × LSpec) := [(5, Za N)]
def zqd : Code := Tryz.f44.body.getD .skip
theorem ziT (N : Nat) : Zb qP zdZ N (zk2 N) 5 (zb 5 zqd) :=
 zC (zx qP [23, 24]) zf (zqe N) (l := []) an (Za N)
def zk1 (N : Nat) : Ent qP := zK (zx qP [23, 24]) zf (zqe N) 44 Tryz.f44 Tryz.func44 zdZ N (zk2 N) (l := [(5, zb 5 zqd)]) (al (ziT N) an) (zhr N)
def zbW : Nat -> Keep × Keep := anF [(2, ⟨[1, 3, 5, 6], [], [3, 5, 6], [], [((6, 0), 1)], [], [], [], true, none, []⟩, ⟨[1, 3, 5, 6, 7], [], [3, 5, 6], [], [((6, 0), 1)], [], [], [], false, none, []⟩), (19, ⟨[1, 3, 5, 6, 8], [], [3, 5, 6, 8], [], [((6, 0), 1)], [], [], [], true, none, []⟩, ⟨[1, 3, 5, 6, 7, 8], [], [3, 5, 6, 8], [], [((6, 0), 1)], [], [], [], false, none, []⟩)] [(100018, ([], [((9, 0), 1)]))]
def zrZ (N : Nat) : List (Ent qP) := [zvE N, zwI N, zrR N, zwh N, znQ N, zsd N, zwL N, zk1 N]
def Zx (N : Nat) : LSpec where
 X := Int × qL × RT7 × qL × RT7
 Y := (Int × Int × qL × RT7 × qL × RT7) ⊕ (Int × qL × RT7 × qL × RT7)
 dt := .mk 127 0 (zbW 19).1.toks [(1, .int .i64), (3, .ptr 3 0), (5, .ptr 5 0), (6, .ptr 6 0), (8, .ptr 8 0)] [(3, .cells [.lst 1]), (5, .row RK7), (6, .cells [.tok 1 6401572864]), (8, .row RK7)] rfl
 od := .mk 127 0 (zbW 19).2.toks [⟨.ret, [(1, .int .i64), (3, .ptr 3 0), (5, .ptr 5 0), (6, .ptr 6 0), (7, .int .i64), (8, .ptr 8 0)], [(3, .cells [.lst 1]), (5, .row RK7), (6, .cells [.tok 1 6401572864]), (8, .row RK7)], none⟩, ⟨.normal, [(1, .int .i64), (3, .ptr 3 0), (5, .ptr 5 0), (6, .ptr 6 0), (8, .ptr 8 0)], [(3, .cells [.lst 1]), (5, .row RK7), (6, .cells [.tok 1 6401572864]), (8, .row RK7)], none⟩] rfl
 b := λ u19 α kn ke => (match (u19.2.2.1.1 == 5) with | true => (match (u19.2.2.1.2.2.2.1 == u19.1) with | true => (ke (.inl (u19.1, 10, u19.2.1, u19.2.2.1, ([] : qL), u19.2.2.2.2))) | false => (match (u19.2.2.1.1 == 6) with | true => (match zgg N u19.2.2.2.2 with | some y21 => (match y21 with | true => (ke (.inl (u19.1, 10, u19.2.1, u19.2.2.1, ([] : qL), u19.2.2.2.2))) | false => (ke (.inr u19))) | none => none) | false => (ke (.inr u19)))) | false => (match (u19.2.2.1.1 == 6) with | true => (match zgg N u19.2.2.2.2 with | some y22 => (match y22 with | true => (ke (.inl (u19.1, 10, u19.2.1, u19.2.2.1, ([] : qL), u19.2.2.2.2))) | false => (ke (.inr u19))) | none => none) | false => (ke (.inr u19))))
abbrev JY (N : Nat) (x : Int × qL × RT7 × qL × RT7) : Option ((Int × Int × qL × RT7 × qL × RT7) ⊕ (Int × qL × RT7 × qL × RT7)) := (Zx N).L N x
def jK (N : Nat) : LSpec where
 X := Int × qL × RT7 × qL
 Y := (Int × Int × qL × RT7 × qL) ⊕ (Int × qL × RT7 × qL)
 dt := .mk 127 0 (zbW 2).1.toks [(1, .int .i64), (3, .ptr 3 0), (5, .ptr 5 0), (6, .ptr 6 0)] [(3, .cells [.lst 1]), (5, .row RK7), (6, .cells [.tok 1 6401572864])] rfl
 od := .mk 127 0 (zbW 2).2.toks [⟨.ret, [(1, .int .i64), (3, .ptr 3 0), (5, .ptr 5 0), (6, .ptr 6 0), (7, .int .i64)], [(3, .cells [.lst 1]), (5, .row RK7), (6, .cells [.tok 1 6401572864])], none⟩, ⟨.normal, [(1, .int .i64), (3, .ptr 3 0), (5, .ptr 5 0), (6, .ptr 6 0)], [(3, .cells [.lst 1]), (5, .row RK7), (6, .cells [.tok 1 6401572864])], none⟩] rfl
 b := λ u2 α kn ke => (match ziP N u2.2.1 with | some y7 => (match (!y7) with | true => (ke (.inl (u2.1, 1, u2.2.1, u2.2.2.1, ([] : qL)))) | false => (match zgp N u2.2.2.1.2.2.1 with | some y8 => (match (!y8) with | true => (ke (.inl (u2.1, 1, u2.2.1, u2.2.2.1, ([] : qL)))) | false => (match (u2.2.2.1.1 == 3) with | true => (match Jk N ([(zu (zm u2.2.2.1))]) with | some y9 => (match (!y9) with | true => (ke (.inl (u2.1, 1, u2.2.1, u2.2.2.1, ([] : qL)))) | false => (ke (.inr u2))) | none => none) | false => (ke (.inr u2)))) | none => none)) | none => none)
abbrev zeX (N : Nat) (x : Int × qL × RT7 × qL) : Option ((Int × Int × qL × RT7 × qL) ⊕ (Int × qL × RT7 × qL)) := (jK N).L N x
def znJ (N : Nat) : FSpec where
 X := qL × Int × RT7
 Y := qL × Int
 ad := .mk [.ags [.sl 1], .int .i64, .agg RK7] [] rfl
 S := ⟨[[some 1], [none]], [], [], [], []⟩
 ret := λ y => qR (AV.tup [(AV.agg [(AV.list 1 y.1 none)]), (AV.v (.int .i64 y.2))])
 t := λ x α k => (match zeX N (x.2.1, x.1, x.2.2, ([] : qL)) with | some y10 => (match y10 with | .inl z11 => (k (z11.2.2.2.2, z11.2.1)) | .inr z12 => (match (decide (z12.1 < 0)) with | true => (k (([] : qL), 6)) | false => (match (decide (z12.1 >= (z12.2.1.length : Int))) with | true => (k (([] : qL), 6)) | false => (match (decide (z12.2.2.1.2.2.2.1 < 0)) with | true => (k (([] : qL), 6)) | false => (match (decide (z12.2.2.1.2.2.2.1 >= (z12.2.1.length : Int))) with | true => (k (([] : qL), 6)) | false => (match (decide (z12.2.2.1.2.1 < 0)) with | true => (k (([] : qL), 2)) | false => (match (decide (z12.2.2.1.2.1 > 18014398509481984)) with | true => (k (([] : qL), 2)) | false => (match ziZ N (z12.2.1, z12.2.2.1.2.1) with | some y13 => (match (!y13) with | true => (k (([] : qL), 9)) | false => (if 0 <= z12.1 then (match z12.2.1[z12.1.toNat]? with | some c14 => (match ze2 c14 with | some e15 => (match zgf N e15.1 with | some y16 => (match JY N (z12.1, z12.2.1, z12.2.2.1, z12.2.2.2, y16) with | some y23 => (match y23 with | .inl z24 => (k (z24.2.2.2.2.1, z24.2.1)) | .inr z25 => (if 0 <= z25.1 then (match z25.2.1[z25.1.toNat]? with | some c26 => (match (c26.drop 0)[0]? with | some x27 => (match ZW 29 x27 with | some l28 => (match ((l28.length : Int) == 100) with | true => (k (([] : qL), 8)) | false => (match ze1 N z25.2.2.1.1 with | some y29 => (match y29 with | true => (match zbV N z25.2.1 with | some y30 => (if 0 <= z25.1 /\ z25.1 < (y30.1 : Int) then (match (y30.2.1.map (datJ y30.2.2.1 y30.2.2.2))[(((0 + z25.1.toNat) * 1) + 0)]? with | some c31 => (match c31 with | .list n32 l33 (some q34) => (if n32 = 29 /\ q34 = TOB + (((0 + z25.1.toNat) * 1) + 0) /\ y30.2.2.1 <= (((0 + z25.1.toNat) * 1) + 0) /\ (((0 + z25.1.toNat) * 1) + 0) < y30.2.2.2 then (if (l33.length + [(zp (z25.2.2.1.1, z25.2.2.1.2.1, z25.2.2.1.2.2.1, z25.2.2.1.2.2.2.1, z25.2.2.2.2.2.2.2.2))].length) * 288 <= ze then (if 0 <= z25.1 /\ z25.1 < (y30.1 : Int) then (if (((0 + z25.1.toNat) * 1) + 0) + 1 <= (y30.2.1.map (datJ y30.2.2.1 y30.2.2.2)).length then (if y30.1 * 1 <= (splice (y30.2.1.map (datJ y30.2.2.1 y30.2.2.2)) (((0 + z25.1.toNat) * 1) + 0) [(AV.list 29 (l33 ++ [(zp (z25.2.2.1.1, z25.2.2.1.2.1, z25.2.2.1.2.2.1, z25.2.2.1.2.2.2.1, z25.2.2.2.2.2.2.2.2))]) (some 7872))]).length then (k ((zo ((splice (y30.2.1.map (datJ y30.2.2.1 y30.2.2.2)) (((0 + z25.1.toNat) * 1) + 0) [(AV.list 29 (l33 ++ [(zp (z25.2.2.1.1, z25.2.2.1.2.1, z25.2.2.1.2.2.1, z25.2.2.1.2.2.2.1, z25.2.2.2.2.2.2.2.2))]) (some 7872))]).take (y30.1 * 1)) 1 y30.1), 0)) else none) else none) else none) else none) else none) | _ => none) | none => none) else none) | none => none) | false => (match zbV N z25.2.1 with | some y35 => (if 0 <= z25.1 /\ z25.1 < (y35.1 : Int) then (match (y35.2.1.map (datJ y35.2.2.1 y35.2.2.2))[(((0 + z25.1.toNat) * 1) + 0)]? with | some c36 => (match c36 with | .list n37 l38 (some q39) => (if n37 = 29 /\ q39 = TOB + (((0 + z25.1.toNat) * 1) + 0) /\ y35.2.2.1 <= (((0 + z25.1.toNat) * 1) + 0) /\ (((0 + z25.1.toNat) * 1) + 0) < y35.2.2.2 then (if (l38.length + [(zp z25.2.2.1)].length) * 288 <= ze then (if 0 <= z25.1 /\ z25.1 < (y35.1 : Int) then (if (((0 + z25.1.toNat) * 1) + 0) + 1 <= (y35.2.1.map (datJ y35.2.2.1 y35.2.2.2)).length then (if y35.1 * 1 <= (splice (y35.2.1.map (datJ y35.2.2.1 y35.2.2.2)) (((0 + z25.1.toNat) * 1) + 0) [(AV.list 29 (l38 ++ [(zp z25.2.2.1)]) (some 7872))]).length then (k ((zo ((splice (y35.2.1.map (datJ y35.2.2.1 y35.2.2.2)) (((0 + z25.1.toNat) * 1) + 0) [(AV.list 29 (l38 ++ [(zp z25.2.2.1)]) (some 7872))]).take (y35.1 * 1)) 1 y35.1), 0)) else none) else none) else none) else none) else none) | _ => none) | none => none) else none) | none => none)) | none => none)) | none => none) | none => none) | none => none) else none)) | none => none) | none => none) | none => none) | none => none) else none)) | none => none)))))))) | none => none)
abbrev Z4 (N : Nat) (x : qL × Int × RT7) : Option (qL × Int) := (znJ N).d x
def zk8 (N : Nat) : List (Nat × LSpec) := [(2, jK N), (19, Zx N)]
def znH : Code := Tryz.f48.body.getD .skip
theorem ziW (N : Nat) : Zb qP zbW N (zk8 N) 19 (zb 19 znH) :=
 Jw (zx qP [111, 120]) zf (zrZ N) (l := []) an (Zx N)
theorem zk7 (N : Nat) : Zb qP zbW N (zk8 N) 2 (zb 2 znH) :=
 Jw (zx qP [111, 120]) zf (zrZ N) (l := []) an (jK N)
def znI (N : Nat) : Ent qP := zK (zx qP [111, 120]) zf (zrZ N) 48 Tryz.f48 Tryz.func48 zbW N (zk8 N) (l := [(2, zb 2 znH), (19, zb 19 znH)]) (al (zk7 N) (al (ziW N) an)) (znJ N)
def zwe : Nat -> Keep × Keep := anL []
def zzM (N : Nat) : List (Ent qP) := []
def zsb (N : Nat) : FSpec where
 X := RT7
 Y := Bool
 ad := .mk [.agg RK7] [] rfl
 ret := λ y => qR (AV.v (.bool y))
 t := λ x α k => (match (x.1 == 1) with | true => (k true) | false => (match (x.1 == 3) with | true => (k true) | false => (k (x.1 == 6))))
abbrev zsa (N : Nat) (x : RT7) : Option (Bool) := (zsb N).d x
def zzL (N : Nat) : Ent qP := zK (zc qP) zf (zzM N) 65 Tryz.f65 Tryz.func65 zwe N [] (l := []) an (zsb N)
def jE : Nat -> Keep × Keep := anL [(5, ⟨[2, 6], [], [2], [(1, 25)], [], [(5, 1)], [], [], false, none, []⟩, ⟨[2], [], [2], [(1, 25)], [], [(5, 1)], [], [], false, none, []⟩), (18, ⟨[2, 5, 8], [], [2, 1000005], [(1, 25)], [], [], [], [1000005], false, none, []⟩, ⟨[5], [], [1000005], [], [], [], [], [1000005], false, none, []⟩), (26, ⟨[2, 5, 8, 9], [], [2, 1000005], [(1, 25)], [], [], [], [1000005], false, none, []⟩, ⟨[2, 5, 8], [], [2, 1000005], [(1, 25)], [], [], [], [1000005], false, none, []⟩)]
def zhp (N : Nat) : List (Ent qP) := [znQ N, zz1 N, zqi N, zz6 N]
def zD (N : Nat) : LSpec where
 X := qL × Nat × Int × Int × qL × qA
 Y := (qL × Nat × Int × qL × qA)
 dt := .mk 81 0 (jE 26).1.toks [(1, .lst 25), (2, .ptr 2 0), (5, .vs0 1000005 1), (8, .int .i64), (9, .int .i64)] [(2, .cells [.lst 1]), (1000005, .tt)] rfl
 od := .mk 81 0 (jE 26).2.toks [⟨.exit 4, [(1, .lst 25), (2, .ptr 2 0), (5, .vs0 1000005 1), (8, .int .i64)], [(2, .cells [.lst 1]), (1000005, .tt)], none⟩] rfl
 b := λ u26 α kn ke => (match (decide (u26.2.2.2.1 < (u26.1.length : Int))) with | true => (if 0 <= u26.2.2.1 /\ u26.2.2.1 < (u26.2.1 : Int) then (match u26.2.2.2.2.2[((0 + u26.2.2.1.toNat) * 1)]? with | some x23 => (match x23 with | .v (.int q25 n24) => (if q25 = .i64 then (match (decide (n24 < 0)) with | true => (match zeZ N (u26.2.1, u26.2.2.2.1, (u26.2.2.2.2.2.map dat0)) with | some y26 => (match (!y26.1) with | true => (if 0 <= u26.2.2.1 then (match u26.2.2.2.2.1[u26.2.2.1.toNat]? with | some c27 => (match ze2 c27 with | some e28 => (match zgf N e28.1 with | some y29 => (if 0 <= u26.2.2.2.1 then (match u26.1[u26.2.2.2.1.toNat]? with | some c30 => (match ((c30.drop 9).drop 0)[0]? with | some x31 => (match ZW 9 x31 with | some l32 => (match znX N (y29.2.2.2.2.2.2.2.2.2.2.2.2.2.1, l32) with | some y33 => (match y33 with | true => (if 0 <= u26.2.2.1 /\ u26.2.2.1 < (u26.2.1 : Int) then (if ((0 + u26.2.2.1.toNat) * 1) + 1 <= y26.2.length then (kn (u26.1, u26.2.1, u26.2.2.1, (i64 (u26.2.2.2.1 + 1)), u26.2.2.2.2.1, ((splice y26.2 ((0 + u26.2.2.1.toNat) * 1) [(AV.v (.int .i64 u26.2.2.2.1))]).map dat0))) else none) else none) | false => (kn (u26.1, u26.2.1, u26.2.2.1, (i64 (u26.2.2.2.1 + 1)), u26.2.2.2.2.1, (y26.2.map dat0)))) | none => none) | none => none) | none => none) | none => none) else none) | none => none) | none => none) | none => none) else none) | false => (kn (u26.1, u26.2.1, u26.2.2.1, (i64 (u26.2.2.2.1 + 1)), u26.2.2.2.2.1, (y26.2.map dat0)))) | none => none) | false => (ke (u26.1, u26.2.1, u26.2.2.1, u26.2.2.2.2.1, (u26.2.2.2.2.2.map dat0)))) else none) | _ => none) | none => none) else none) | false => (ke (u26.1, u26.2.1, u26.2.2.1, u26.2.2.2.2.1, (u26.2.2.2.2.2.map dat0))))
abbrev zho (N : Nat) (x : qL × Nat × Int × Int × qL × qA) : Option ((qL × Nat × Int × qL × qA)) := (zD N).L N x
def Zn (N : Nat) : LSpec where
 X := qL × Nat × Int × qL × qA
 Y := (Nat × qA)
 dt := .mk 81 0 (jE 18).1.toks [(1, .lst 25), (2, .ptr 2 0), (5, .vs0 1000005 1), (8, .int .i64)] [(2, .cells [.lst 1]), (1000005, .tt)] rfl
 od := .mk 81 0 (jE 18).2.toks [⟨.exit 2, [(5, .vs0 1000005 1)], [(1000005, .tt)], none⟩] rfl
 b := λ u18 α kn ke => (match (decide (u18.2.2.1 < (u18.2.2.2.1.length : Int))) with | true => (match zho N (u18.1, u18.2.1, u18.2.2.1, 0, u18.2.2.2.1, (u18.2.2.2.2.map dat0)) with | some y35 => (kn (y35.1, y35.2.1, (i64 (y35.2.2.1 + 1)), y35.2.2.2.1, (y35.2.2.2.2.map dat0))) | none => none) | false => (ke (u18.2.1, (u18.2.2.2.2.map dat0))))
abbrev zhn (N : Nat) (x : qL × Nat × Int × qL × qA) : Option ((Nat × qA)) := (Zn N).L N x
def Zg (N : Nat) : LSpec where
 X := Nat × qL × Int × qL × qA
 Y := (Nat × qL × qL × qA)
 dt := .mk 81 0 (jE 5).1.toks [(5, .vs0 1000005 1), (1, .lst 25), (2, .ptr 2 0), (6, .int .i64)] [(2, .cells [.lst 1]), (1000005, .tt)] rfl
 od := .mk 81 0 (jE 5).2.toks [⟨.exit 0, [(5, .vs0 1000005 1), (1, .lst 25), (2, .ptr 2 0)], [(2, .cells [.lst 1]), (1000005, .tt)], none⟩] rfl
 b := λ u5 α kn ke => (match (decide (u5.2.2.1 < (u5.2.2.2.1.length : Int))) with | true => (if 0 <= u5.2.2.1 then (match u5.2.2.2.1[u5.2.2.1.toNat]? with | some c6 => (match ze2 c6 with | some e7 => (match zgf N e7.1 with | some y8 => (match znW N (u5.2.1, (zlX y8)) with | some y9 => (match zeZ N (u5.1, y9, (u5.2.2.2.2.map dat0)) with | some y10 => (match y10.1 with | true => (if u5.1 * 1 <= y10.2.length /\ (u5.1 + [[(AV.v (.int .i64 (-1)))]].length) * 8 <= ze then (kn ((u5.1 + [[(AV.v (.int .i64 (-1)))]].length), u5.2.1, (i64 (u5.2.2.1 + 1)), u5.2.2.2.1, ((y10.2.take (u5.1 * 1) ++ [[(AV.v (.int .i64 (-1)))]].flatten).map dat0))) else none) | false => (if u5.1 * 1 <= y10.2.length /\ (u5.1 + [[(AV.v (.int .i64 y9))]].length) * 8 <= ze then (kn ((u5.1 + [[(AV.v (.int .i64 y9))]].length), u5.2.1, (i64 (u5.2.2.1 + 1)), u5.2.2.2.1, ((y10.2.take (u5.1 * 1) ++ [[(AV.v (.int .i64 y9))]].flatten).map dat0))) else none)) | none => none) | none => none) | none => none) | none => none) | none => none) else none) | false => (ke (u5.1, u5.2.1, u5.2.2.2.1, (u5.2.2.2.2.map dat0))))
abbrev zkX (N : Nat) (x : Nat × qL × Int × qL × qA) : Option ((Nat × qL × qL × qA)) := (Zg N).L N x
def zkY (N : Nat) : FSpec where
 X := qL × qL
 Y := Nat × qA
 ad := .mk [.ags [.sl 1], .lst 25] [] rfl
 S := ⟨[[some 1000001]], [], [], [], []⟩
 bm := true
 ret := λ y => ⟨(AV.vs 0 0 y.1 1), [], some y.2, [], [], [], none⟩
 t := λ x α k => (match zkX N (0, x.2, 0, x.1, ([] : List AV)) with | some y11 => (match zhn N (y11.2.1, y11.1, 0, y11.2.2.1, (y11.2.2.2.map dat0)) with | some y36 => (k (y36.1, (y36.2.map dat0))) | none => none) | none => none)
abbrev zkW (N : Nat) (x : qL × qL) : Option (Nat × qA) := (zkY N).d x
def zdY (N : Nat) : List (Nat × LSpec) := [(5, Zg N), (18, Zn N), (26, zD N)]
def zbT : Code := Tryz.f41.body.getD .skip
theorem zbU (N : Nat) : Zb qP jE N (zdY N) 26 (zb 26 zbT) :=
 zC (zx qP [33]) zf (zhp N) (l := []) an (zD N)
theorem zgb (N : Nat) : Zb qP jE N (zdY N) 18 (zb 18 zbT) :=
 zC (zx qP [33]) zf (zhp N) (l := [(26, zb 26 zbT)]) (al (zbU N) an) (Zn N)
theorem ziS (N : Nat) : Zb qP jE N (zdY N) 5 (zb 5 zbT) :=
 zC (zx qP [33]) zf (zhp N) (l := []) an (Zg N)
def zvN (N : Nat) : Ent qP := zK (zx qP [33]) zf (zhp N) 41 Tryz.f41 Tryz.func41 jE N (zdY N) (l := [(5, zb 5 zbT), (18, zb 18 zbT), (26, zb 26 zbT)]) (al (ziS N) (al (zgb N) (al (zbU N) an))) (zkY N)
def JQ : Nat -> Keep × Keep := anF [(18, ⟨[2, 3, 6, 9, 10, 12], [(11, 1)], [3, 6, 9, 40, 43], [(1, 25)], [((6, 0), 1)], [], [], [40, 43], false, some 40, []⟩, ⟨[2, 6, 8, 9, 10], [(11, 1)], [6, 9, 40, 43], [(1, 25), (7, 1)], [((6, 0), 1)], [], [], [40, 43], false, some 40, []⟩), (30, ⟨[2, 3, 6, 9, 10, 12, 13, 14, 15, 16, 68], [(11, 1)], [3, 6, 9, 13, 14, 40, 43], [(1, 25)], [((6, 0), 1)], [], [], [40, 43], true, some 40, []⟩, ⟨[2, 3, 6, 9, 10, 12, 13, 14, 15], [(11, 1)], [3, 6, 9, 13, 14, 40, 43], [(1, 25)], [((6, 0), 1)], [], [], [40, 43], false, some 40, []⟩), (42, ⟨[2, 6, 9, 10, 17], [(11, 1)], [6, 9, 43], [(1, 25)], [((6, 0), 1)], [], [((9, 0), 1)], [43], false, none, []⟩, ⟨[6, 9], [(11, 1)], [6, 9], [], [((6, 0), 1)], [], [((9, 0), 1)], [], false, none, []⟩)] [(100032, ([], [((9, 0), 1)]))]
def znB (N : Nat) : List (Ent qP) := [zvE N, zrR N, zwh N, zk1 N, zvN N, znQ N, zzL N, zr0 N, zsd N, zqi N]
def Zk (N : Nat) : LSpec where
 X := qL × qL × Int × Nat × Int × qL × Nat × qA × qA
 Y := (qL × qL × Nat × qA)
 dt := .mk 155 0 (JQ 42).1.toks [(11, .tok 1 1280000704), (1, .lst 25), (2, .int .i64), (6, .ptr 6 0), (9, .ptr 9 0), (10, .vs0 43 1), (17, .int .i64)] [(6, .cells [.tok 1 6401572864]), (9, .cells [.vs0 2036864 1]), (43, .tt), (2036864, .tt)] rfl
 od := .mk 155 0 (JQ 42).2.toks [⟨.exit 2, [(11, .tok 1 1280000704), (6, .ptr 6 0), (9, .ptr 9 0)], [(6, .cells [.tok 1 6401572864]), (9, .cells [.vs0 2036864 1]), (2036864, .tt)], none⟩] rfl
 b := λ u42 α kn ke => (match (decide (u42.2.2.2.2.1 < (u42.2.1.length : Int))) with | true => (match zeZ N (u42.2.2.2.1, u42.2.2.2.2.1, (u42.2.2.2.2.2.2.2.1.map dat0)) with | some y58 => (match (!y58.1) with | true => (if (u42.1.length + [[(AV.v (.int .i64 ((u42.2.2.2.2.2.2.1 : Nat) : Int)))]].length) * 8 <= ze then (if 0 <= u42.2.2.2.2.1 then (match u42.2.1[u42.2.2.2.2.1.toNat]? with | some c59 => (match zfZ c59 with | some e60 => (if u42.2.2.2.2.2.2.1 * 1 <= u42.2.2.2.2.2.2.2.2.length /\ (u42.2.2.2.2.2.2.1 + [[(AV.list 29 [(zp (1, u42.2.2.1, (⟨#[]⟩ : ByteArray), 0, e60))] none)]].length) * 24 <= ze then (kn ((u42.1 ++ [[(AV.v (.int .i64 ((u42.2.2.2.2.2.2.1 : Nat) : Int)))]]), u42.2.1, u42.2.2.1, u42.2.2.2.1, (i64 (u42.2.2.2.2.1 + 1)), u42.2.2.2.2.2.1, (u42.2.2.2.2.2.2.1 + [[(AV.list 29 [(zp (1, u42.2.2.1, (⟨#[]⟩ : ByteArray), 0, e60))] none)]].length), (y58.2.map dat0), ((u42.2.2.2.2.2.2.2.2.take (u42.2.2.2.2.2.2.1 * 1) ++ [[(AV.list 29 [(zp (1, u42.2.2.1, (⟨#[]⟩ : ByteArray), 0, e60))] none)]].flatten).map dat0))) else none) | none => none) | none => none) else none) else none) | false => (kn (u42.1, u42.2.1, u42.2.2.1, u42.2.2.2.1, (i64 (u42.2.2.2.2.1 + 1)), u42.2.2.2.2.2.1, u42.2.2.2.2.2.2.1, (y58.2.map dat0), (u42.2.2.2.2.2.2.2.2.map dat0)))) | none => none) | false => (ke (u42.1, u42.2.2.2.2.2.1, u42.2.2.2.2.2.2.1, (u42.2.2.2.2.2.2.2.2.map dat0))))
abbrev zkN (N : Nat) (x : qL × qL × Int × Nat × Int × qL × Nat × qA × qA) : Option ((qL × qL × Nat × qA)) := (Zk N).L N x
def Jj (N : Nat) : LSpec where
 X := qL × qL × Int × Nat × Int × Bool × Int × Bool × qL × qL × Nat × RT7 × RT7 × qA × qA × Nat × Nat
 Y := (qL × qL × Int × Nat × Int × Bool × qL × qL × Nat × RT7 × RT7 × qA × qA × Nat × Nat)
 dt := .fm 155 0 (JQ 30).1.toks 40 [(11, .tok 1 1280000704), (1, .lst 25), (2, .int .i64), (3, .ptr 3 0), (6, .ptr 6 0), (9, .ptr 9 0), (10, .vs0 43 1), (12, .int .i64), (13, .ptr 13 0), (14, .ptr 14 0), (15, .bool), (16, .int .i64), (68, .bool)] [(3, .cells [.lst 1]), (6, .cells [.tok 1 6401572864]), (9, .cells [.vs0 40 1]), (13, .row RK7), (14, .row RK7), (40, .tt), (43, .tt)] rfl
 od := .mk 155 0 (JQ 30).2.toks [⟨.normal, [(11, .tok 1 1280000704), (1, .lst 25), (2, .int .i64), (3, .ptr 3 0), (6, .ptr 6 0), (9, .ptr 9 0), (10, .vs0 43 1), (12, .int .i64), (13, .ptr 13 0), (14, .ptr 14 0), (15, .bool)], [(3, .cells [.lst 1]), (6, .cells [.tok 1 6401572864]), (9, .cells [.vs0 40 1]), (13, .row RK7), (14, .row RK7), (40, .tt), (43, .tt)], some 40⟩] rfl
 b := λ u30 α kn ke => (match u30.2.2.2.2.2.2.2.1 with | true => (if 0 <= u30.2.2.2.2.2.2.1 then (match u30.2.1[u30.2.2.2.2.2.2.1.toNat]? with | some c24 => (match zfZ c24 with | some e25 => (match zsa N u30.2.2.2.2.2.2.2.2.2.2.2.1 with | some y26 => (match y26 with | true => (if 0 <= u30.2.2.2.2.2.2.1 then (match u30.2.1[u30.2.2.2.2.2.2.1.toNat]? with | some c27 => (match zfZ c27 with | some e28 => (match zaH N ((zm u30.2.2.2.2.2.2.2.2.2.2.2.1), e28) with | some y29 => (ke (u30.1, u30.2.1, u30.2.2.1, u30.2.2.2.1, u30.2.2.2.2.1, y29, u30.2.2.2.2.2.2.2.2.1, u30.2.2.2.2.2.2.2.2.2.1, u30.2.2.2.2.2.2.2.2.2.2.1, u30.2.2.2.2.2.2.2.2.2.2.2.1, (1, u30.2.2.2.2.2.2.2.2.2.2.2.2.1.2.1, u30.2.2.2.2.2.2.2.2.2.2.2.2.1.2.2.1, u30.2.2.2.2.2.2.2.2.2.2.2.2.1.2.2.2.1, e25), (u30.2.2.2.2.2.2.2.2.2.2.2.2.2.1.map datF), (u30.2.2.2.2.2.2.2.2.2.2.2.2.2.2.1.map dat0), u30.2.2.2.2.2.2.2.2.2.2.2.2.2.2.2)) | none => none) | none => none) | none => none) else none) | false => (ke (u30.1, u30.2.1, u30.2.2.1, u30.2.2.2.1, u30.2.2.2.2.1, false, u30.2.2.2.2.2.2.2.2.1, u30.2.2.2.2.2.2.2.2.2.1, u30.2.2.2.2.2.2.2.2.2.2.1, u30.2.2.2.2.2.2.2.2.2.2.2.1, (1, u30.2.2.2.2.2.2.2.2.2.2.2.2.1.2.1, u30.2.2.2.2.2.2.2.2.2.2.2.2.1.2.2.1, u30.2.2.2.2.2.2.2.2.2.2.2.2.1.2.2.2.1, e25), (u30.2.2.2.2.2.2.2.2.2.2.2.2.2.1.map datF), (u30.2.2.2.2.2.2.2.2.2.2.2.2.2.2.1.map dat0), u30.2.2.2.2.2.2.2.2.2.2.2.2.2.2.2))) | none => none) | none => none) | none => none) else none) | false => (ke (u30.1, u30.2.1, u30.2.2.1, u30.2.2.2.1, u30.2.2.2.2.1, u30.2.2.2.2.2.1, u30.2.2.2.2.2.2.2.2.1, u30.2.2.2.2.2.2.2.2.2.1, u30.2.2.2.2.2.2.2.2.2.2.1, u30.2.2.2.2.2.2.2.2.2.2.2.1, u30.2.2.2.2.2.2.2.2.2.2.2.2.1, (u30.2.2.2.2.2.2.2.2.2.2.2.2.2.1.map datF), (u30.2.2.2.2.2.2.2.2.2.2.2.2.2.2.1.map dat0), u30.2.2.2.2.2.2.2.2.2.2.2.2.2.2.2)))
abbrev zbP (N : Nat) (x : qL × qL × Int × Nat × Int × Bool × Int × Bool × qL × qL × Nat × RT7 × RT7 × qA × qA × Nat × Nat) : Option ((qL × qL × Int × Nat × Int × Bool × qL × qL × Nat × RT7 × RT7 × qA × qA × Nat × Nat)) := (Jj N).L N x
def Zj (N : Nat) : LSpec where
 X := qL × qL × Int × Nat × Int × qL × qL × Nat × qA × qA × Nat × Nat
 Y := (qL × qL × qL × Int × Int × Nat × qL × Nat × qA × qA × Nat × Nat) ⊕ (qL × qL × Int × Nat × qL × Nat × qA × qA × Nat × Nat)
 dt := .fm 155 0 (JQ 18).1.toks 40 [(11, .tok 1 1280000704), (1, .lst 25), (2, .int .i64), (3, .ptr 3 0), (6, .ptr 6 0), (9, .ptr 9 0), (10, .vs0 43 1), (12, .int .i64)] [(3, .cells [.lst 1]), (6, .cells [.tok 1 6401572864]), (9, .cells [.vs0 40 1]), (40, .tt), (43, .tt)] rfl
 od := .mk 155 0 (JQ 18).2.toks [⟨.ret, [(11, .tok 1 1280000704), (1, .lst 25), (7, .lst 1), (2, .int .i64), (6, .ptr 6 0), (8, .int .i64), (9, .ptr 9 0), (10, .vs0 43 1)], [(6, .cells [.tok 1 6401572864]), (9, .cells [.vs0 40 1]), (40, .tt), (43, .tt)], some 40⟩, ⟨.exit 0, [(11, .tok 1 1280000704), (1, .lst 25), (2, .int .i64), (6, .ptr 6 0), (9, .ptr 9 0), (10, .vs0 43 1)], [(6, .cells [.tok 1 6401572864]), (9, .cells [.vs0 40 1]), (40, .tt), (43, .tt)], some 40⟩] rfl
 b := λ u18 α kn ke => (match (decide (u18.2.2.2.2.1 < ((u18.2.2.2.1 : Nat) : Int))) with | true => (if 0 <= u18.2.2.2.2.1 then (match u18.2.2.2.2.2.1[u18.2.2.2.2.1.toNat]? with | some c38 => (match ze2 c38 with | some e39 => (match zgf N e39.1 with | some y40 => (if 0 <= u18.2.2.2.2.1 /\ u18.2.2.2.2.1 < (u18.2.2.2.1 : Int) then (match u18.2.2.2.2.2.2.2.2.2.1[((0 + u18.2.2.2.2.1.toNat) * 1)]? with | some x41 => (match x41 with | .v (.int q43 n42) => (if q43 = .i64 then (match zbP N (u18.1, u18.2.1, u18.2.2.1, u18.2.2.2.1, u18.2.2.2.2.1, (y40.1 == 2), n42, (decide (n42 >= 0)), u18.2.2.2.2.2.1, u18.2.2.2.2.2.2.1, u18.2.2.2.2.2.2.2.1, y40, (2, u18.2.2.1, (⟨#[]⟩ : ByteArray), 0, y40.2.2.2.2), (u18.2.2.2.2.2.2.2.2.1.map datF), (u18.2.2.2.2.2.2.2.2.2.1.map dat0), u18.2.2.2.2.2.2.2.2.2.2) with | some y44 => (match zgg N y44.2.2.2.2.2.2.2.2.2.1 with | some y45 => (match y45 with | true => (match (!y44.2.2.2.2.2.1) with | true => (if 0 <= y44.2.2.2.2.1 /\ y44.2.2.2.2.1 < (y44.2.2.2.2.2.2.2.2.1 : Int) then (match y44.2.2.2.2.2.2.2.2.2.2.2.1[(((0 + y44.2.2.2.2.1.toNat) * 1) + 0)]? with | some c46 => (match c46 with | .list n47 l48 (some q49) => (if n47 = 29 /\ q49 = TOB + (((0 + y44.2.2.2.2.1.toNat) * 1) + 0) /\ y44.2.2.2.2.2.2.2.2.2.2.2.2.2.1 <= (((0 + y44.2.2.2.2.1.toNat) * 1) + 0) /\ (((0 + y44.2.2.2.2.1.toNat) * 1) + 0) < y44.2.2.2.2.2.2.2.2.2.2.2.2.2.2 then (if (l48.length + [(zp y44.2.2.2.2.2.2.2.2.2.2.1)].length) * 288 <= ze then (if 0 <= y44.2.2.2.2.1 /\ y44.2.2.2.2.1 < (y44.2.2.2.2.2.2.2.2.1 : Int) then (if (((0 + y44.2.2.2.2.1.toNat) * 1) + 0) + 1 <= y44.2.2.2.2.2.2.2.2.2.2.2.1.length then (if (y44.1.length + [[(AV.v (.int .i64 y44.2.2.2.2.1))]].length) * 8 <= ze then (if 0 <= y44.2.2.2.2.1 /\ y44.2.2.2.2.1 < (y44.2.2.2.2.2.2.2.2.1 : Int) then (match (splice y44.2.2.2.2.2.2.2.2.2.2.2.1 (((0 + y44.2.2.2.2.1.toNat) * 1) + 0) [(AV.list 29 (l48 ++ [(zp y44.2.2.2.2.2.2.2.2.2.2.1)]) (some 6592))])[(((0 + y44.2.2.2.2.1.toNat) * 1) + 0)]? with | some x50 => (match ZW 29 x50 with | some l51 => (match (decide ((l51.length : Int) > 100)) with | true => (ke (.inl ((y44.1 ++ [[(AV.v (.int .i64 y44.2.2.2.2.1))]]), y44.2.1, ([] : qL), y44.2.2.1, 8, y44.2.2.2.1, ([] : qL), y44.2.2.2.2.2.2.2.2.1, ((splice y44.2.2.2.2.2.2.2.2.2.2.2.1 (((0 + y44.2.2.2.2.1.toNat) * 1) + 0) [(AV.list 29 (l48 ++ [(zp y44.2.2.2.2.2.2.2.2.2.2.1)]) (some 6592))]).map datF), (y44.2.2.2.2.2.2.2.2.2.2.2.2.1.map dat0), ((((0 + y44.2.2.2.2.1.toNat) * 1) + 0) + 1), y44.2.2.2.2.2.2.2.2.2.2.2.2.2.2))) | false => (kn ((y44.1 ++ [[(AV.v (.int .i64 y44.2.2.2.2.1))]]), y44.2.1, y44.2.2.1, y44.2.2.2.1, (i64 (y44.2.2.2.2.1 + 1)), y44.2.2.2.2.2.2.1, y44.2.2.2.2.2.2.2.1, y44.2.2.2.2.2.2.2.2.1, ((splice y44.2.2.2.2.2.2.2.2.2.2.2.1 (((0 + y44.2.2.2.2.1.toNat) * 1) + 0) [(AV.list 29 (l48 ++ [(zp y44.2.2.2.2.2.2.2.2.2.2.1)]) (some 6592))]).map datF), (y44.2.2.2.2.2.2.2.2.2.2.2.2.1.map dat0), ((((0 + y44.2.2.2.2.1.toNat) * 1) + 0) + 1), y44.2.2.2.2.2.2.2.2.2.2.2.2.2.2))) | none => none) | none => none) else none) else none) else none) else none) else none) else none) | _ => none) | none => none) else none) | false => (kn (y44.1, y44.2.1, y44.2.2.1, y44.2.2.2.1, (i64 (y44.2.2.2.2.1 + 1)), y44.2.2.2.2.2.2.1, y44.2.2.2.2.2.2.2.1, y44.2.2.2.2.2.2.2.2.1, (y44.2.2.2.2.2.2.2.2.2.2.2.1.map datF), (y44.2.2.2.2.2.2.2.2.2.2.2.2.1.map dat0), y44.2.2.2.2.2.2.2.2.2.2.2.2.2))) | false => (kn (y44.1, y44.2.1, y44.2.2.1, y44.2.2.2.1, (i64 (y44.2.2.2.2.1 + 1)), y44.2.2.2.2.2.2.1, y44.2.2.2.2.2.2.2.1, y44.2.2.2.2.2.2.2.2.1, (y44.2.2.2.2.2.2.2.2.2.2.2.1.map datF), (y44.2.2.2.2.2.2.2.2.2.2.2.2.1.map dat0), y44.2.2.2.2.2.2.2.2.2.2.2.2.2))) | none => none) | none => none) else none) | _ => none) | none => none) else none) | none => none) | none => none) | none => none) else none) | false => (ke (.inr (u18.1, u18.2.1, u18.2.2.1, u18.2.2.2.1, u18.2.2.2.2.2.2.1, u18.2.2.2.2.2.2.2.1, (u18.2.2.2.2.2.2.2.2.1.map datF), (u18.2.2.2.2.2.2.2.2.2.1.map dat0), u18.2.2.2.2.2.2.2.2.2.2))))
abbrev zkM (N : Nat) (x : qL × qL × Int × Nat × Int × qL × qL × Nat × qA × qA × Nat × Nat) : Option ((qL × qL × qL × Int × Int × Nat × qL × Nat × qA × qA × Nat × Nat) ⊕ (qL × qL × Int × Nat × qL × Nat × qA × qA × Nat × Nat)) := (Zj N).L N x
def zrQ (N : Nat) : FSpec where
 X := qL × qL × Int
 Y := qL × qL × Int
 ad := .mk [.ags [.sl 1], .lst 25, .int .i64] [] rfl
 S := ⟨[[some 1], [some 1], [none]], [], [], [], []⟩
 ret := λ y => qR (AV.tup [(AV.agg [(AV.list 1 y.1 none)]), (AV.list 1 y.2.1 none), (AV.v (.int .i64 y.2.2))])
 t := λ x α k => (match ziP N x.1 with | some y1 => (match (!y1) with | true => (k (([] : qL), ([] : qL), 1)) | false => (match Jk N x.2.1 with | some y2 => (match (!y2) with | true => (k (([] : qL), ([] : qL), 1)) | false => (match (decide (x.2.2 < 0)) with | true => (k (([] : qL), ([] : qL), 2)) | false => (match (decide (x.2.2 > 18014398509481984)) with | true => (k (([] : qL), ([] : qL), 2)) | false => (match ziZ N (x.1, x.2.2) with | some y3 => (match (!y3) with | true => (k (([] : qL), ([] : qL), 9)) | false => (match zbV N x.1 with | some y4 => (match zkW N (x.1, x.2.1) with | some y5 => (match zkM N (([] : qL), x.2.1, x.2.2, y5.1, 0, x.1, ([] : qL), y4.1, ((y4.2.1.map (datJ y4.2.2.1 y4.2.2.2)).map datF), ((y5.2.map dat0).map dat0), y4.2.2) with | some y52 => (match y52 with | .inl z53 => (k (z53.2.2.2.2.2.2.1, z53.2.2.1, z53.2.2.2.2.1)) | .inr z54 => (match zkN N (z54.1, z54.2.1, z54.2.2.1, z54.2.2.2.1, 0, z54.2.2.2.2.1, z54.2.2.2.2.2.1, (z54.2.2.2.2.2.2.2.1.map dat0), (z54.2.2.2.2.2.2.1.map dat0)) with | some y61 => (match (decide (((y61.2.2.1 : Nat) : Int) > 500)) with | true => (k (([] : qL), ([] : qL), 8)) | false => (if y61.2.2.1 * 1 <= y61.2.2.2.length then (k ((zo (y61.2.2.2.take (y61.2.2.1 * 1)) 1 y61.2.2.1), y61.1, 0)) else none)) | none => none)) | none => none) | none => none) | none => none)) | none => none)))) | none => none)) | none => none)
abbrev zrP (N : Nat) (x : qL × qL × Int) : Option (qL × qL × Int) := (zrQ N).d x
def zhm (N : Nat) : List (Nat × LSpec) := [(18, Zj N), (30, Jj N), (42, Zk N)]
def zga : Code := Tryz.f38.body.getD .skip
theorem ziR (N : Nat) : Zb qP JQ N (zhm N) 42 (zb 42 zga) :=
 zC (zx qP [40, 43, 100, 146]) zf (znB N) (l := []) an (Zk N)
theorem zdh (N : Nat) : Zb qP JQ N (zhm N) 30 (zb 30 zga) :=
 Jw (zx qP [40, 43, 100, 146]) zf (znB N) (l := []) an (Jj N)
theorem ziQ (N : Nat) : Zb qP JQ N (zhm N) 18 (zb 18 zga) :=
 zC (zx qP [40, 43, 100, 146]) zf (znB N) (l := [(30, zb 30 zga)]) (al (zdh N) an) (Zj N)
def zzl (N : Nat) : Ent qP := zK (zx qP [40, 43, 100, 146]) zf (znB N) 38 Tryz.f38 Tryz.func38 JQ N (zhm N) (l := [(18, zb 18 zga), (30, zb 30 zga), (42, zb 42 zga)]) (al (ziQ N) (al (zdh N) (al (ziR N) an))) (zrQ N)
end
end
section
noncomputable section
open Go.RowKit
set_option maxRecDepth 4000
set_option maxHeartbeats 4000000
def zwF : Nat -> Keep × Keep := anL []
def zz7 (N : Nat) : List (Ent qP) := [zvZ N]
def zst (N : Nat) : FSpec where
 X := RT0
 Y := Bool
 ad := .mk [.agg RK0] [] rfl
 ret := λ y => qR (AV.v (.bool y))
 t := λ x α k => (match zd0 N ([(zu x)]) with | some y1 => (k y1) | none => none)
abbrev zcY (N : Nat) (x : RT0) : Option (Bool) := (zst N).d x
def zwG (N : Nat) : Ent qP := zK (zc qP) zf (zz7 N) 82 Tryz.f82 Tryz.func82 zwF N [] (l := []) an (zst N)
def zwa : Nat -> Keep × Keep := anL []
def zzE (N : Nat) : List (Ent qP) := [zwG N, zwD N]
def zr6 (N : Nat) : FSpec where
 X := RT7 × Int × Int
 Y := Bool
 ad := .mk [.agg RK7, .int .i64, .int .i64] [] rfl
 ret := λ y => qR (AV.v (.bool y))
 t := λ x α k => (match (decide (x.1.1 < 1)) with | true => (k false) | false => (match (decide (x.1.1 > 6)) with | true => (k false) | false => (match (decide (x.1.2.1 < 0)) with | true => (k false) | false => (match (decide (x.1.2.1 > 18014398509481984)) with | true => (k false) | false => (match zcY N (zm x.1) with | some y1 => (match (!y1) with | true => (k false) | false => (if 0 <= x.1.1 /\ x.1.1 < 7 then (match ((gtab3.map AV.v).drop (x.1.1.toNat * 1))[0]? with | some x2 => (match x2 with | .v (.bool b3) => (match b3 with | true => (match (!(x.1.2.2.1.toList == (⟨#[]⟩ : ByteArray).toList)) with | true => (k false) | false => (if 0 <= x.1.1 /\ x.1.1 < 7 then (match ((gtab3.map AV.v).drop (x.1.1.toNat * 1))[0]? with | some x4 => (match x4 with | .v (.bool b5) => (match (!b5) with | true => (match zgo N x.1.2.2.1 with | some y6 => (match (!y6) with | true => (k false) | false => (match (x.1.1 == 5) with | true => (match (decide (x.1.2.2.2.1 >= 0)) with | true => (match (decide (x.1.2.2.2.1 < x.2.2)) with | true => (k (x.1.2.2.2.1 != x.2.1)) | false => (k false)) | false => (k false)) | false => (k (x.1.2.2.2.1 == 0)))) | none => none) | false => (match (x.1.1 == 5) with | true => (match (decide (x.1.2.2.2.1 >= 0)) with | true => (match (decide (x.1.2.2.2.1 < x.2.2)) with | true => (k (x.1.2.2.2.1 != x.2.1)) | false => (k false)) | false => (k false)) | false => (k (x.1.2.2.2.1 == 0)))) | _ => none) | none => none) else none)) | false => (if 0 <= x.1.1 /\ x.1.1 < 7 then (match ((gtab3.map AV.v).drop (x.1.1.toNat * 1))[0]? with | some x7 => (match x7 with | .v (.bool b8) => (match (!b8) with | true => (match zgo N x.1.2.2.1 with | some y9 => (match (!y9) with | true => (k false) | false => (match (x.1.1 == 5) with | true => (match (decide (x.1.2.2.2.1 >= 0)) with | true => (match (decide (x.1.2.2.2.1 < x.2.2)) with | true => (k (x.1.2.2.2.1 != x.2.1)) | false => (k false)) | false => (k false)) | false => (k (x.1.2.2.2.1 == 0)))) | none => none) | false => (match (x.1.1 == 5) with | true => (match (decide (x.1.2.2.2.1 >= 0)) with | true => (match (decide (x.1.2.2.2.1 < x.2.2)) with | true => (k (x.1.2.2.2.1 != x.2.1)) | false => (k false)) | false => (k false)) | false => (k (x.1.2.2.2.1 == 0)))) | _ => none) | none => none) else none)) | _ => none) | none => none) else none)) | none => none)))))
abbrev zr5 (N : Nat) (x : RT7 × Int × Int) : Option (Bool) := (zr6 N).d x
def zzD (N : Nat) : Ent qP := zK (zc qP) zf (zzE N) 57 Tryz.f57 Tryz.func57 zwa N [] (l := []) an (zr6 N)
def zv7 : Nat -> Keep × Keep := anL []
def zzB (N : Nat) : List (Ent qP) := [zAh N]
def zr3 (N : Nat) : FSpec where
 X := RT0 × RT0
 Y := Bool
 ad := .mk [.agg RK0, .agg RK0] [] rfl
 ret := λ y => qR (AV.v (.bool y))
 t := λ x α k => (match zwU N ([(zu x.1)], [(zu x.2)]) with | some y1 => (k y1) | none => none)
abbrev zli (N : Nat) (x : RT0 × RT0) : Option (Bool) := (zr3 N).d x
def zv8 (N : Nat) : Ent qP := zK (zc qP) zf (zzB N) 55 Tryz.f55 Tryz.func55 zv7 N [] (l := []) an (zr3 N)
def zbO : Nat -> Keep × Keep := anL [(8, ⟨[1, 14, 15], [], [1], [(13, 1)], [], [], [], [], false, none, []⟩, qK [2] [] []), (21, ⟨[1, 3, 4, 14, 15, 40, 41], [], [1, 4], [(13, 1), (39, 29)], [], [], [], [], false, none, []⟩, ⟨[1, 2, 14, 15], [], [1], [(13, 1)], [], [], [], [], false, none, []⟩)]
def zrL (N : Nat) : List (Ent qP) := [zzD N, zv8 N]
def zZ (N : Nat) : LSpec where
 X := qL × qL × Int × Int × Int × Int × Int × qL × qL
 Y := (qL × Bool × Int × Int × qL) ⊕ (qL × Int × Int × qL)
 dt := .mk 92 0 (zbO 21).1.toks [(13, .lst 1), (39, .lst 29), (1, .ptr 1 0), (3, .int .i64), (4, .ptr 4 0), (14, .int .i64), (15, .int .i64), (40, .int .i64), (41, .int .i64)] [(1, .cells [.lst 1]), (4, .cells [.lst 29])] rfl
 od := .mk 92 0 (zbO 21).2.toks [⟨.ret, [(13, .lst 1), (1, .ptr 1 0), (2, .bool), (14, .int .i64), (15, .int .i64)], [(1, .cells [.lst 1])], none⟩, ⟨.exit 2, [(13, .lst 1), (1, .ptr 1 0), (14, .int .i64), (15, .int .i64)], [(1, .cells [.lst 1])], none⟩] rfl
 b := λ u21 α kn ke => (match (decide (u21.2.2.2.2.2.2.1 < u21.2.2.2.2.2.1)) with | true => (if 0 <= u21.2.2.2.2.2.2.1 then (match u21.2.1[u21.2.2.2.2.2.2.1.toNat]? with | some c17 => (match zgs c17 with | some e18 => (match zr5 N (e18, u21.2.2.1, (u21.2.2.2.2.2.2.2.1.length : Int)) with | some y19 => (match (!y19) with | true => (ke (.inl (u21.1, false, u21.2.2.2.1, u21.2.2.2.2.1, u21.2.2.2.2.2.2.2.1))) | false => (match (u21.2.2.2.2.2.2.1 == 0) with | true => (kn (u21.1, u21.2.1, u21.2.2.1, u21.2.2.2.1, u21.2.2.2.2.1, u21.2.2.2.2.2.1, (i64 (u21.2.2.2.2.2.2.1 + 1)), u21.2.2.2.2.2.2.2)) | false => (if 0 <= (i64 (u21.2.2.2.2.2.2.1 - 1)) then (match u21.2.2.2.2.2.2.2.2[(i64 (u21.2.2.2.2.2.2.1 - 1)).toNat]? with | some c20 => (match zgs c20 with | some e21 => (match (decide (e18.2.1 < e21.2.1)) with | true => (ke (.inl (u21.1, false, u21.2.2.2.1, u21.2.2.2.2.1, u21.2.2.2.2.2.2.2.1))) | false => (if 0 <= e18.1 /\ e18.1 < 7 then (if 0 <= e21.1 /\ e21.1 < 7 then (match (((gtab1.map AV.v).drop (e18.1.toNat * 7)).drop (e21.1.toNat * 1))[0]? with | some x22 => (match x22 with | .v (.bool b23) => (match (!b23) with | true => (ke (.inl (u21.1, false, u21.2.2.2.1, u21.2.2.2.2.1, u21.2.2.2.2.2.2.2.1))) | false => (if 0 <= e18.1 /\ e18.1 < 7 then (match ((gtab2.map AV.v).drop (e18.1.toNat * 1))[0]? with | some x24 => (match x24 with | .v (.bool b25) => (match b25 with | true => (match zli N ((zm e18), (zm e21)) with | some y26 => (match (!y26) with | true => (ke (.inl (u21.1, false, u21.2.2.2.1, u21.2.2.2.2.1, u21.2.2.2.2.2.2.2.1))) | false => (kn (u21.1, u21.2.1, u21.2.2.1, u21.2.2.2.1, u21.2.2.2.2.1, u21.2.2.2.2.2.1, (i64 (u21.2.2.2.2.2.2.1 + 1)), u21.2.2.2.2.2.2.2))) | none => none) | false => (kn (u21.1, u21.2.1, u21.2.2.1, u21.2.2.2.1, u21.2.2.2.2.1, u21.2.2.2.2.2.1, (i64 (u21.2.2.2.2.2.2.1 + 1)), u21.2.2.2.2.2.2.2))) | _ => none) | none => none) else none)) | _ => none) | none => none) else none) else none)) | none => none) | none => none) else none))) | none => none) | none => none) | none => none) else none) | false => (ke (.inr (u21.1, u21.2.2.2.1, u21.2.2.2.2.1, u21.2.2.2.2.2.2.2.1))))
abbrev zkB (N : Nat) (x : qL × qL × Int × Int × Int × Int × Int × qL × qL) : Option ((qL × Bool × Int × Int × qL) ⊕ (qL × Int × Int × qL)) := (zZ N).L N x
def j6 (N : Nat) : LSpec where
 X := qL × Int × Int × qL
 Y := (Bool) ⊕ (Unit)
 dt := .mk 92 0 (zbO 8).1.toks [(13, .lst 1), (1, .ptr 1 0), (14, .int .i64), (15, .int .i64)] [(1, .cells [.lst 1])] rfl
 od := .mk 92 0 (zbO 8).2.toks [⟨.ret, [(2, .bool)], [], none⟩, ⟨.exit 0, [], [], none⟩] rfl
 b := λ u8 α kn ke => (match (decide (u8.2.2.1 < u8.2.1)) with | true => (if 0 <= u8.2.2.1 then (match u8.1[u8.2.2.1.toNat]? with | some c1 => (match ze2 c1 with | some e2 => (match (decide ((e2.1.length : Int) < 1)) with | true => (ke (.inl false)) | false => (match (decide ((e2.1.length : Int) > 100)) with | true => (ke (.inl false)) | false => (if 0 <= (0 : Int) then (match e2.1[(0 : Int).toNat]? with | some c3 => (match (c3.drop 0)[0]? with | some x4 => (match x4 with | .v (.int q6 n5) => (if q6 = .i64 then (match (n5 != 1) with | true => (ke (.inl false)) | false => (match zkB N (u8.1, e2.1, u8.2.2.1, u8.2.1, u8.2.2.1, (e2.1.length : Int), 0, u8.2.2.2, e2.1) with | some y27 => (match y27 with | .inl z28 => (ke (.inl z28.2.1)) | .inr z29 => (kn (z29.1, z29.2.1, (i64 (z29.2.2.1 + 1)), z29.2.2.2))) | none => none)) else none) | _ => none) | none => none) | none => none) else none))) | none => none) | none => none) else none) | false => (ke (.inr ())))
abbrev zp4 (N : Nat) (x : qL × Int × Int × qL) : Option ((Bool) ⊕ (Unit)) := (j6 N).L N x
def zrM (N : Nat) : FSpec where
 X := qL
 Y := Bool
 ad := .mk [.ags [.sl 1]] [] rfl
 ret := λ y => qR (AV.v (.bool y))
 t := λ x α k => (match (decide ((x.length : Int) > 500)) with | true => (k false) | false => (match zp4 N (x, (x.length : Int), 0, x) with | some y30 => (match y30 with | .inl z31 => (k z31) | .inr z32 => (k true)) | none => none))
abbrev zkA (N : Nat) (x : qL) : Option (Bool) := (zrM N).d x
def zkD (N : Nat) : List (Nat × LSpec) := [(8, j6 N), (21, zZ N)]
def zkz : Code := Tryz.f28.body.getD .skip
theorem zde (N : Nat) : Zb qP zbO N (zkD N) 21 (zb 21 zkz) :=
 zC (zc qP) zf (zrL N) (l := []) an (zZ N)
theorem zkC (N : Nat) : Zb qP zbO N (zkD N) 8 (zb 8 zkz) :=
 zC (zc qP) zf (zrL N) (l := [(21, zb 21 zkz)]) (al (zde N) an) (j6 N)
def zrK (N : Nat) : Ent qP := zK (zc qP) zf (zrL N) 28 Tryz.f28 Tryz.func28 zbO N (zkD N) (l := [(8, zb 8 zkz), (21, zb 21 zkz)]) (al (zkC N) (al (zde N) an)) (zrM N)
def zb6 : Nat -> Keep × Keep := anL [(5, ⟨[3, 10, 11], [], [], [(9, 1)], [], [], [], [], false, none, []⟩, qK [3] [] []), (14, ⟨[3, 10, 11, 17, 18], [], [], [(9, 1), (16, 29)], [], [], [], [], false, none, []⟩, ⟨[3, 10, 11], [], [], [(9, 1)], [], [], [], [], false, none, []⟩)]
def zsA (N : Nat) : List (Ent qP) := []
def Z6 (N : Nat) : LSpec where
 X := qL × qL × Int × Int × Int × Int × Int
 Y := (qL × Int × Int × Int)
 dt := .mk 29 0 (zb6 14).1.toks [(9, .lst 1), (16, .lst 29), (3, .int .i64), (10, .int .i64), (11, .int .i64), (17, .int .i64), (18, .int .i64)] [] rfl
 od := .mk 29 0 (zb6 14).2.toks [⟨.exit 2, [(9, .lst 1), (3, .int .i64), (10, .int .i64), (11, .int .i64)], [], none⟩] rfl
 b := λ u14 α kn ke => (match (decide (u14.2.2.2.2.2.2 < u14.2.2.2.2.2.1)) with | true => (if 0 <= u14.2.2.2.2.2.2 then (match u14.2.1[u14.2.2.2.2.2.2.toNat]? with | some c3 => (match zgs c3 with | some e4 => (kn (u14.1, u14.2.1, (if e4.2.1 > u14.2.2.1 then e4.2.1 else u14.2.2.1), u14.2.2.2.1, u14.2.2.2.2.1, u14.2.2.2.2.2.1, (i64 (u14.2.2.2.2.2.2 + 1)))) | none => none) | none => none) else none) | false => (ke (u14.1, u14.2.2.1, u14.2.2.2.1, u14.2.2.2.2.1)))
abbrev zlR (N : Nat) (x : qL × qL × Int × Int × Int × Int × Int) : Option ((qL × Int × Int × Int)) := (Z6 N).L N x
def Ja (N : Nat) : LSpec where
 X := qL × Int × Int × Int
 Y := (Int)
 dt := .mk 29 0 (zb6 5).1.toks [(9, .lst 1), (3, .int .i64), (10, .int .i64), (11, .int .i64)] [] rfl
 od := .mk 29 0 (zb6 5).2.toks [⟨.exit 0, [(3, .int .i64)], [], none⟩] rfl
 b := λ u5 α kn ke => (match (decide (u5.2.2.2 < u5.2.2.1)) with | true => (if 0 <= u5.2.2.2 then (match u5.1[u5.2.2.2.toNat]? with | some c1 => (match ze2 c1 with | some e2 => (match zlR N (u5.1, e2.1, u5.2.1, u5.2.2.1, u5.2.2.2, (e2.1.length : Int), 0) with | some y5 => (kn (y5.1, y5.2.1, y5.2.2.1, (i64 (y5.2.2.2 + 1)))) | none => none) | none => none) | none => none) else none) | false => (ke u5.2.1))
abbrev zqz (N : Nat) (x : qL × Int × Int × Int) : Option ((Int)) := (Ja N).L N x
def zsB (N : Nat) : FSpec where
 X := qL
 Y := Int
 ad := .mk [.ags [.sl 1]] [] rfl
 ret := λ y => qR (AV.v (.int .i64 y))
 t := λ x α k => (match zqz N (x, 0, (x.length : Int), 0) with | some y6 => (k y6) | none => none)
abbrev zwR (N : Nat) (x : qL) : Option (Int) := (zsB N).d x
def zlT (N : Nat) : List (Nat × LSpec) := [(5, Ja N), (14, Z6 N)]
def zlQ : Code := Tryz.f89.body.getD .skip
theorem zdp (N : Nat) : Zb qP zb6 N (zlT N) 14 (zb 14 zlQ) :=
 zC (zc qP) zf (zsA N) (l := []) an (Z6 N)
theorem zlS (N : Nat) : Zb qP zb6 N (zlT N) 5 (zb 5 zlQ) :=
 zC (zc qP) zf (zsA N) (l := [(14, zb 14 zlQ)]) (al (zdp N) an) (Ja N)
def zAf (N : Nat) : Ent qP := zK (zc qP) zf (zsA N) 89 Tryz.f89 Tryz.func89 zb6 N (zlT N) (l := [(5, zb 5 zlQ), (14, zb 14 zlQ)]) (al (zlS N) (al (zdp N) an)) (zsB N)
def zv0 : Nat -> Keep × Keep := anL []
def zzy (N : Nat) : List (Ent qP) := [zAf N]
def znL (N : Nat) : FSpec where
 X := qL × Int
 Y := Int
 ad := .mk [.ags [.sl 1], .int .i64] [] rfl
 ret := λ y => qR (AV.v (.int .i64 y))
 t := λ x α k => (match (decide (x.2 < 0)) with | true => (k 2) | false => (match (decide (x.2 > 18014398509481984)) with | true => (k 2) | false => (match zwR N x.1 with | some y1 => (match (decide (x.2 < y1)) with | true => (k 9) | false => (k 0)) | none => none)))
abbrev ziX (N : Nat) (x : qL × Int) : Option (Int) := (znL N).d x
def zv1 (N : Nat) : Ent qP := zK (zc qP) zf (zzy N) 51 Tryz.f51 Tryz.func51 zv0 N [] (l := []) an (znL N)
def zwV : Nat -> Keep × Keep := anL []
def zAk (N : Nat) : List (Ent qP) := []
def zsD (N : Nat) : FSpec where
 X := qL
 Y := qL
 ad := .mk [.lst 9] [] rfl
 S := ⟨[[some 2000009]], [], [], [], []⟩
 ret := λ y => ⟨(AV.list 9 y (some 2560000000)), [], none, [], [2560000000], [], none⟩
 t := λ x α k => (match x with | [] => (zqJ (k ([] : qL)) (if (([] : qL).length + x.length) * 104 <= ze then (k (([] : qL) ++ x)) else none)) | _ :: _ => (if (([] : qL).length + x.length) * 104 <= ze then (k (([] : qL) ++ x)) else none))
abbrev zn0 (N : Nat) (x : qL) : Option (qL) := (zsD N).d x
def zAj (N : Nat) : Ent qP := zK (zc qP) zf (zAk N) 91 Tryz.f91 Tryz.func91 zwV N [] (l := []) an (zsD N)
def zv9 : Nat -> Keep × Keep := anL []
def zzC (N : Nat) : List (Ent qP) := [zAj N]
def zr4 (N : Nat) : FSpec where
 X := RT0
 Y := RT0
 ad := .mk [.agg RK0] [] rfl
 S := ⟨[[none, none, none, none, none, none, none, none, none, some 9, none, none, none, none, none, none, none, none, none, none, none, none, none, none, none]], [], [], [], []⟩
 ret := λ y => qR (AV.agg (zu y))
 t := λ x α k => (match zn0 N x.2.2.2.2.2.2.2.2.2.1 with | some y1 => (k (x.1, x.2.1, x.2.2.1, x.2.2.2.1, x.2.2.2.2.1, x.2.2.2.2.2.1, x.2.2.2.2.2.2.1, x.2.2.2.2.2.2.2.1, x.2.2.2.2.2.2.2.2.1, y1, x.2.2.2.2.2.2.2.2.2.2)) | none => none)
abbrev zcX (N : Nat) (x : RT0) : Option (RT0) := (zr4 N).d x
def znO (N : Nat) : Ent qP := zK (zc qP) zf (zzC N) 56 Tryz.f56 Tryz.func56 zv9 N [] (l := []) an (zr4 N)
def zrg : Nat -> Keep × Keep := anL []
def zuM (N : Nat) : List (Ent qP) := []
def zpN (N : Nat) : FSpec where
 X := Int × Int
 Y := Int × Int
 ad := .mk [.int .u64, .int .u64] [] rfl
 S := ⟨[[none], [none]], [], [], [], []⟩
 ret := λ y => qR (AV.tup [(AV.v (.int .u64 y.1)), (AV.v (.int .u64 y.2))])
 t := λ x α k => (k ((IntKind.u64.wrap ((IntKind.u64.wrap ((IntKind.u64.wrap ((shR .u64 x.1 (32 : Int)) * (shR .u64 x.2 (32 : Int)))) + (shR .u64 (IntKind.u64.wrap ((IntKind.u64.wrap ((shR .u64 x.1 (32 : Int)) * (zqH .u64 x.2 (4294967295 : Int)))) + (shR .u64 (IntKind.u64.wrap ((zqH .u64 x.1 (4294967295 : Int)) * (zqH .u64 x.2 (4294967295 : Int)))) (32 : Int)))) (32 : Int)))) + (shR .u64 (IntKind.u64.wrap ((zqH .u64 (IntKind.u64.wrap ((IntKind.u64.wrap ((shR .u64 x.1 (32 : Int)) * (zqH .u64 x.2 (4294967295 : Int)))) + (shR .u64 (IntKind.u64.wrap ((zqH .u64 x.1 (4294967295 : Int)) * (zqH .u64 x.2 (4294967295 : Int)))) (32 : Int)))) (4294967295 : Int)) + (IntKind.u64.wrap ((zqH .u64 x.1 (4294967295 : Int)) * (shR .u64 x.2 (32 : Int)))))) (32 : Int)))), (IntKind.u64.wrap (x.1 * x.2))))
abbrev zuK (N : Nat) (x : Int × Int) : Option (Int × Int) := (zpN N).d x
def zuL (N : Nat) : Ent qP := zK (zc qP) zf (zuM N) 108 Tryz.f108 Tryz.func108 zrg N [] (l := []) an (zpN N)
def zw0 : Nat -> Keep × Keep := anL []
def zAp (N : Nat) : List (Ent qP) := [zuL N]
def zw1 (N : Nat) : FSpec where
 X := Int × Int
 Y := Int × Int
 ad := .mk [.int .u64, .int .u64] [] rfl
 S := ⟨[[none], [none]], [], [], [], []⟩
 ret := λ y => qR (AV.tup [(AV.v (.int .u64 y.1)), (AV.v (.int .u64 y.2))])
 t := λ x α k => (match zuK N x with | some y1 => (k y1) | none => none)
abbrev zAn (N : Nat) (x : Int × Int) : Option (Int × Int) := (zw1 N).d x
def zAo (N : Nat) : Ent qP := zK (zc qP) zf (zAp N) 95 Tryz.f95 Tryz.func95 zw0 N [] (l := []) an (zw1 N)
def zv2 : Nat -> Keep × Keep := anL []
def zzz (N : Nat) : List (Ent qP) := []
def zv3 (N : Nat) : FSpec where
 X := qL
 Y := RT7
 ad := .mk [.ags [.sl 29]] [] rfl
 S := ⟨[[none, none, none, none, none, none, none, none, none, none, none, none, none, some 9, none, none, none, none, none, none, none, none, none, none, none, none, none, none, none]], [], [], [], []⟩
 ret := λ y => qR (AV.agg (zp y))
 t := λ x α k => (if 0 <= (i64 ((x.length : Int) - 1)) then (match x[(i64 ((x.length : Int) - 1)).toNat]? with | some c1 => (match zgs c1 with | some e2 => (k e2) | none => none) | none => none) else none)
abbrev zlh (N : Nat) (x : qL) : Option (RT7) := (zv3 N).d x
def znM (N : Nat) : Ent qP := zK (zc qP) zf (zzz N) 53 Tryz.f53 Tryz.func53 zv2 N [] (l := []) an (zv3 N)
def zwx : Nat -> Keep × Keep := anL []
def zzX (N : Nat) : List (Ent qP) := []
def zwy (N : Nat) : FSpec where
 X := RT0 × RT0
 Y := Bool
 ad := .mk [.agg RK0, .agg RK0] [] rfl
 ret := λ y => qR (AV.v (.bool y))
 t := λ x α k => (k (((x.1.1 == x.2.1) && ((x.1.2.1 == x.2.2.1) && ((x.1.2.2.1 == x.2.2.2.1) && ((x.1.2.2.2.1 == x.2.2.2.2.1) && true)))) && ((x.1.2.2.2.2.1 == x.2.2.2.2.2.1) && ((x.1.2.2.2.2.2.1 == x.2.2.2.2.2.2.1) && ((x.1.2.2.2.2.2.2.1 == x.2.2.2.2.2.2.2.1) && ((x.1.2.2.2.2.2.2.2.1 == x.2.2.2.2.2.2.2.2.1) && ((x.1.2.2.2.2.2.2.2.2.1 == x.2.2.2.2.2.2.2.2.2.1) && true)))))))
abbrev zzV (N : Nat) (x : RT0 × RT0) : Option (Bool) := (zwy N).d x
def zzW (N : Nat) : Ent qP := zK (zc qP) zf (zzX N) 77 Tryz.f77 Tryz.func77 zwx N [] (l := []) an (zwy N)
def zd2 : Nat -> Keep × Keep := anL [(12, ⟨[7, 8], [], [30], [], [], [], [], [30], false, none, []⟩, ⟨[7], [], [30], [], [], [], [], [30], false, none, []⟩)]
def zqr (N : Nat) : List (Ent qP) := [zAo N]
def zd3 (N : Nat) : LSpec where
 X := Nat × Int × qA
 Y := (Nat × qA)
 dt := .mk 48 0 (zd2 12).1.toks [(7, .vs0 30 1), (8, .int .i64)] [(30, .tt)] rfl
 od := .mk 48 0 (zd2 12).2.toks [⟨.exit 0, [(7, .vs0 30 1)], [(30, .tt)], none⟩] rfl
 b := λ u12 α kn ke => (match (decide (u12.2.1 < ((u12.1 : Nat) : Int))) with | true => (if 0 <= u12.2.1 /\ u12.2.1 <= (u12.1 : Int) then (if 0 <= u12.2.1 /\ u12.2.1 <= (u12.1 : Int) then (if (0 + (u12.2.1.toNat)) * 1 <= u12.2.2.length then (if ((0 + u12.2.1.toNat) + (u12.1 - u12.2.1.toNat)) * 1 <= u12.2.2.length then (kn (u12.1, (i64 (u12.2.1 + (((Nat.min (u12.2.1.toNat) (u12.1 - u12.2.1.toNat)) : Nat) : Int))), ((splice u12.2.2 ((0 + u12.2.1.toNat) * 1) ((u12.2.2.drop (0 * 1)).take ((Nat.min (u12.2.1.toNat) (u12.1 - u12.2.1.toNat)) * 1))).map dat0))) else none) else none) else none) else none) | false => (ke (u12.1, (u12.2.2.map dat0))))
abbrev znU (N : Nat) (x : Nat × Int × qA) : Option ((Nat × qA)) := (zd3 N).L N x
def zqs (N : Nat) : FSpec where
 X := qL × Int
 Y := Nat × qA
 ad := .mk [.lst 1, .int .i64] [] rfl
 S := ⟨[[some 1000001]], [], [], [], []⟩
 bm := true
 ret := λ y => ⟨(AV.vs 0 0 y.1 1), [], some y.2, [], [], [], none⟩
 t := λ x α k => (match (decide (x.2 < 0)) with | true => none | false => (match zAn N ((IntKind.u64.wrap (x.1.length : Int)), (IntKind.u64.wrap x.2)) with | some y1 => (match (decide (y1.1 > 0)) with | true => none | false => (match (decide (y1.2 > 9223372036854775807)) with | true => none | false => (if 0 <= (IntKind.i64.wrap y1.2) /\ (IntKind.i64.wrap y1.2) <= (IntKind.i64.wrap y1.2) /\ (IntKind.i64.wrap y1.2).toNat * 8 <= ze then (if (0 + ((IntKind.i64.wrap y1.2).toNat)) * 1 <= (List.replicate (IntKind.i64.wrap y1.2).toNat (AV.v (.int .i64 0))).length then (match znU N (((IntKind.i64.wrap y1.2).toNat), (((Nat.min x.1.length ((IntKind.i64.wrap y1.2).toNat)) : Nat) : Int), ((splice (List.replicate (IntKind.i64.wrap y1.2).toNat (AV.v (.int .i64 0))) (0 * 1) ((x.1.take (Nat.min x.1.length ((IntKind.i64.wrap y1.2).toNat))).flatten)).map dat0)) with | some y2 => (k (y2.1, (y2.2.map dat0))) | none => none) else none) else none))) | none => none))
abbrev zwr (N : Nat) (x : qL × Int) : Option (Nat × qA) := (zqs N).d x
def zlD (N : Nat) : List (Nat × LSpec) := [(12, zd3 N)]
def zqq : Code := Tryz.f75.body.getD .skip
theorem zgj (N : Nat) : Zb qP zd2 N (zlD N) 12 (zb 12 zqq) :=
 zC (zc qP) zf (zqr N) (l := []) an (zd3 N)
def zws (N : Nat) : Ent qP := zK (zc qP) zf (zqr N) 75 Tryz.f75 Tryz.func75 zd2 N (zlD N) (l := [(12, zb 12 zqq)]) (al (zgj N) an) (zqs N)
def zb3 : Nat -> Keep × Keep := anL [(2, ⟨[0, 2, 3, 4, 12, 13], [], [0, 1, 2, 3, 4, 5], [(11, 1)], [], [], [], [4, 5], false, none, []⟩, ⟨[], [], [0, 1, 2, 3, 4, 5], [], [], [], [], [4, 5], false, none, []⟩), (14, ⟨[0, 2, 3, 4, 6, 7, 12, 13, 30, 31], [], [0, 1, 2, 3, 4, 5, 7], [(11, 1), (29, 25)], [], [], [], [4, 5], false, none, []⟩, ⟨[0, 2, 3, 4, 12, 13], [], [0, 1, 2, 3, 4, 5], [(11, 1)], [], [], [], [4, 5], false, none, []⟩)]
def zso (N : Nat) : List (Ent qP) := [znM N, zzW N]
def zgk (N : Nat) : LSpec where
 X := qL × qL × Int × Int × Int × Int × Int × qL × Nat × qL × Nat × qA × qA × qL
 Y := (qL × Int × Int × qL × Nat × qL × Nat × qA × qA)
 dt := .mk 58 6 (zb3 14).1.toks [(11, .lst 1), (29, .lst 25), (0, .fn0 77), (2, .ptr 1 0), (3, .ptr 2 0), (4, .ptr 3 0), (6, .int .i64), (7, .ptr 7 0), (12, .int .i64), (13, .int .i64), (30, .int .i64), (31, .int .i64)] [(0, .cells [.lst 1]), (1, .cells [.vs0 4 1]), (2, .cells [.lst 25]), (3, .cells [.vs0 5 1]), (4, .tt), (5, .tt), (7, .cells [.lst 29])] rfl
 od := .mk 58 6 (zb3 14).2.toks [⟨.exit 2, [(11, .lst 1), (0, .fn0 77), (2, .ptr 1 0), (3, .ptr 2 0), (4, .ptr 3 0), (12, .int .i64), (13, .int .i64)], [(0, .cells [.lst 1]), (1, .cells [.vs0 4 1]), (2, .cells [.lst 25]), (3, .cells [.vs0 5 1]), (4, .tt), (5, .tt)], none⟩] rfl
 b := λ u14 α kn ke => (match (decide (u14.2.2.2.2.2.2.1 < u14.2.2.2.2.2.1)) with | true => (if 0 <= u14.2.2.2.2.2.2.1 then (match u14.2.1[u14.2.2.2.2.2.2.1.toNat]? with | some c12 => (match zfZ c12 with | some e13 => (if 0 <= u14.2.2.2.2.2.2.1 /\ u14.2.2.2.2.2.2.1 < (u14.2.2.2.2.2.2.2.2.2.2.1 : Int) then (match u14.2.2.2.2.2.2.2.2.2.2.2.2.1[((0 + u14.2.2.2.2.2.2.1.toNat) * 1)]? with | some x14 => (match x14 with | .v (.bool b15) => (match (!b15) with | true => (match zlh N u14.2.2.2.2.2.2.2.2.2.2.2.2.2 with | some y16 => (match zzV N ((zm y16), e13) with | some y17 => (match y17 with | true => (if 0 <= u14.2.2.1 /\ u14.2.2.1 < (u14.2.2.2.2.2.2.2.2.1 : Int) then (if ((0 + u14.2.2.1.toNat) * 1) + 1 <= u14.2.2.2.2.2.2.2.2.2.2.2.1.length then (if 0 <= u14.2.2.2.2.2.2.1 /\ u14.2.2.2.2.2.2.1 < (u14.2.2.2.2.2.2.2.2.2.2.1 : Int) then (if ((0 + u14.2.2.2.2.2.2.1.toNat) * 1) + 1 <= u14.2.2.2.2.2.2.2.2.2.2.2.2.1.length then (ke (u14.1, u14.2.2.2.1, u14.2.2.2.2.1, u14.2.2.2.2.2.2.2.1, u14.2.2.2.2.2.2.2.2.1, u14.2.2.2.2.2.2.2.2.2.1, u14.2.2.2.2.2.2.2.2.2.2.1, ((splice u14.2.2.2.2.2.2.2.2.2.2.2.1 ((0 + u14.2.2.1.toNat) * 1) [(AV.v (.int .i64 u14.2.2.2.2.2.2.1))]).map dat0), ((splice u14.2.2.2.2.2.2.2.2.2.2.2.2.1 ((0 + u14.2.2.2.2.2.2.1.toNat) * 1) [(AV.v (.bool true))]).map dat0))) else none) else none) else none) else none) | false => (kn (u14.1, u14.2.1, u14.2.2.1, u14.2.2.2.1, u14.2.2.2.2.1, u14.2.2.2.2.2.1, (i64 (u14.2.2.2.2.2.2.1 + 1)), u14.2.2.2.2.2.2.2.1, u14.2.2.2.2.2.2.2.2.1, u14.2.2.2.2.2.2.2.2.2.1, u14.2.2.2.2.2.2.2.2.2.2.1, (u14.2.2.2.2.2.2.2.2.2.2.2.1.map dat0), (u14.2.2.2.2.2.2.2.2.2.2.2.2.1.map dat0), u14.2.2.2.2.2.2.2.2.2.2.2.2.2))) | none => none) | none => none) | false => (kn (u14.1, u14.2.1, u14.2.2.1, u14.2.2.2.1, u14.2.2.2.2.1, u14.2.2.2.2.2.1, (i64 (u14.2.2.2.2.2.2.1 + 1)), u14.2.2.2.2.2.2.2.1, u14.2.2.2.2.2.2.2.2.1, u14.2.2.2.2.2.2.2.2.2.1, u14.2.2.2.2.2.2.2.2.2.2.1, (u14.2.2.2.2.2.2.2.2.2.2.2.1.map dat0), (u14.2.2.2.2.2.2.2.2.2.2.2.2.1.map dat0), u14.2.2.2.2.2.2.2.2.2.2.2.2.2))) | _ => none) | none => none) else none) | none => none) | none => none) else none) | false => (ke (u14.1, u14.2.2.2.1, u14.2.2.2.2.1, u14.2.2.2.2.2.2.2.1, u14.2.2.2.2.2.2.2.2.1, u14.2.2.2.2.2.2.2.2.2.1, u14.2.2.2.2.2.2.2.2.2.2.1, (u14.2.2.2.2.2.2.2.2.2.2.2.1.map dat0), (u14.2.2.2.2.2.2.2.2.2.2.2.2.1.map dat0))))
abbrev zsn (N : Nat) (x : qL × qL × Int × Int × Int × Int × Int × qL × Nat × qL × Nat × qA × qA × qL) : Option ((qL × Int × Int × qL × Nat × qL × Nat × qA × qA)) := (zgk N).L N x
def zlF (N : Nat) : LSpec where
 X := qL × Int × Int × qL × Nat × qL × Nat × qA × qA
 Y := (qL × Nat × qL × Nat × qA × qA)
 dt := .mk 58 6 (zb3 2).1.toks [(11, .lst 1), (0, .fn0 77), (2, .ptr 1 0), (3, .ptr 2 0), (4, .ptr 3 0), (12, .int .i64), (13, .int .i64)] [(0, .cells [.lst 1]), (1, .cells [.vs0 4 1]), (2, .cells [.lst 25]), (3, .cells [.vs0 5 1]), (4, .tt), (5, .tt)] rfl
 od := .mk 58 6 (zb3 2).2.toks [⟨.exit 0, [], [(0, .cells [.lst 1]), (1, .cells [.vs0 4 1]), (2, .cells [.lst 25]), (3, .cells [.vs0 5 1]), (4, .tt), (5, .tt)], none⟩] rfl
 b := λ u2 α kn ke => (match (decide (u2.2.2.1 < u2.2.1)) with | true => (if 0 <= u2.2.2.1 then (match u2.1[u2.2.2.1.toNat]? with | some c19 => (match ze2 c19 with | some e20 => (if 0 <= u2.2.2.1 /\ u2.2.2.1 < (u2.2.2.2.2.1 : Int) then (match u2.2.2.2.2.2.2.2.1[((0 + u2.2.2.1.toNat) * 1)]? with | some x21 => (match x21 with | .v (.int q23 n22) => (if q23 = .i64 then (match (decide (n22 >= 0)) with | true => (kn (u2.1, u2.2.1, (i64 (u2.2.2.1 + 1)), u2.2.2.2.1, u2.2.2.2.2.1, u2.2.2.2.2.2.1, u2.2.2.2.2.2.2.1, (u2.2.2.2.2.2.2.2.1.map dat0), (u2.2.2.2.2.2.2.2.2.map dat0))) | false => (match ((e20.1.length : Int) == 0) with | true => (kn (u2.1, u2.2.1, (i64 (u2.2.2.1 + 1)), u2.2.2.2.1, u2.2.2.2.2.1, u2.2.2.2.2.2.1, u2.2.2.2.2.2.2.1, (u2.2.2.2.2.2.2.2.1.map dat0), (u2.2.2.2.2.2.2.2.2.map dat0))) | false => (match zsn N (u2.1, u2.2.2.2.2.2.1, u2.2.2.1, u2.2.1, u2.2.2.1, (u2.2.2.2.2.2.1.length : Int), 0, u2.2.2.2.1, u2.2.2.2.2.1, u2.2.2.2.2.2.1, u2.2.2.2.2.2.2.1, (u2.2.2.2.2.2.2.2.1.map dat0), (u2.2.2.2.2.2.2.2.2.map dat0), e20.1) with | some y24 => (kn (y24.1, y24.2.1, (i64 (y24.2.2.1 + 1)), y24.2.2.2.1, y24.2.2.2.2.1, y24.2.2.2.2.2.1, y24.2.2.2.2.2.2.1, (y24.2.2.2.2.2.2.2.1.map dat0), (y24.2.2.2.2.2.2.2.2.map dat0))) | none => none))) else none) | _ => none) | none => none) else none) | none => none) | none => none) else none) | false => (ke (u2.2.2.2.1, u2.2.2.2.2.1, u2.2.2.2.2.2.1, u2.2.2.2.2.2.2.1, (u2.2.2.2.2.2.2.2.1.map dat0), (u2.2.2.2.2.2.2.2.2.map dat0))))
abbrev zwt (N : Nat) (x : qL × Int × Int × qL × Nat × qL × Nat × qA × qA) : Option ((qL × Nat × qL × Nat × qA × qA)) := (zlF N).L N x
def zwu (N : Nat) : FSpec where
 X := qL × Nat × qL × Nat × qA × qA
 Y := qL × Nat × qL × Nat × qA × qA
 ad := .mk [.fn0 77, .ptr 0 0, .ptr 1 0, .ptr 2 0, .ptr 3 0] [.cells [.lst 1], .cells [.vs0 4 1], .cells [.lst 25], .cells [.vs0 5 1], .tt, .tt] rfl
 bsh := [[some 1], [none], [some 25], [none], [], []]
 S := ⟨[], [[some 1], [some 2000001], [some 25], [some 2000001], [], []], [], [], [4, 5]⟩
 ret := λ y => ⟨(AV.tup []), [[(AV.list 1 y.1 none)], [(AV.vs 4 0 y.2.1 1)], [(AV.list 25 y.2.2.1 none)], [(AV.vs 5 0 y.2.2.2.1 1)], y.2.2.2.2.1, y.2.2.2.2.2], none, [], [], [4, 5], none⟩
 t := λ x α k => (match zwt N (x.1, (x.1.length : Int), 0, x.1, x.2.1, x.2.2.1, x.2.2.2.1, (x.2.2.2.2.1.map dat0), (x.2.2.2.2.2.map dat0)) with | some y25 => (k (y25.1, y25.2.1, y25.2.2.1, y25.2.2.2.1, (y25.2.2.2.2.1.map dat0), (y25.2.2.2.2.2.map dat0))) | none => none)
abbrev zzT (N : Nat) (x : qL × Nat × qL × Nat × qA × qA) : Option (qL × Nat × qL × Nat × qA × qA) := (zwu N).d x
def zlH (N : Nat) : List (Nat × LSpec) := [(2, zlF N), (14, zgk N)]
def zlE : Code := Tryz.f76.body.getD .skip
theorem zdn (N : Nat) : Zb qP zb3 N (zlH N) 14 (zb 14 zlE) :=
 zC (zc qP) zf (zso N) (l := []) an (zgk N)
theorem zlG (N : Nat) : Zb qP zb3 N (zlH N) 2 (zb 2 zlE) :=
 zC (zc qP) zf (zso N) (l := [(14, zb 14 zlE)]) (al (zdn N) an) (zlF N)
def zzU (N : Nat) : Ent qP := zK (zc qP) zf (zso N) 76 Tryz.f76 Tryz.func76 zb3 N (zlH N) (l := [(2, zb 2 zlE), (14, zb 14 zlE)]) (al (zlG N) (al (zdn N) an)) (zwu N)
def zdT : Nat -> Keep × Keep := anL [(4, ⟨[3, 7, 8], [], [3], [(0, 9)], [], [], [], [], false, none, []⟩, qK [4] [] [])]
def zpU (N : Nat) : List (Ent qP) := []
def zf4 (N : Nat) : LSpec where
 X := qL × Int × Int × RT1
 Y := (Int) ⊕ (Unit)
 dt := .mk 19 0 (zdT 4).1.toks [(0, .lst 9), (3, .ptr 3 0), (7, .int .i64), (8, .int .i64)] [(3, .row RK1)] rfl
 od := .mk 19 0 (zdT 4).2.toks [⟨.ret, [(4, .int .i64)], [], none⟩, ⟨.exit 0, [], [], none⟩] rfl
 b := λ u4 α kn ke => (match (decide (u4.2.2.1 < u4.2.1)) with | true => (if 0 <= u4.2.2.1 then (match u4.1[u4.2.2.1.toNat]? with | some c1 => (match jI c1 with | some e2 => (match (((u4.2.2.2.1 == e2.1) && ((u4.2.2.2.2.1 == e2.2.1) && ((u4.2.2.2.2.2.1 == e2.2.2.1) && ((u4.2.2.2.2.2.2.1 == e2.2.2.2.1) && true)))) && ((u4.2.2.2.2.2.2.2.1 == e2.2.2.2.2.1) && ((u4.2.2.2.2.2.2.2.2.1 == e2.2.2.2.2.2.1) && ((u4.2.2.2.2.2.2.2.2.2.1 == e2.2.2.2.2.2.2.1) && ((u4.2.2.2.2.2.2.2.2.2.2.1 == e2.2.2.2.2.2.2.2.1) && ((u4.2.2.2.2.2.2.2.2.2.2.2.1 == e2.2.2.2.2.2.2.2.2.1) && true)))))) with | true => (ke (.inl u4.2.2.1)) | false => (kn (u4.1, u4.2.1, (i64 (u4.2.2.1 + 1)), u4.2.2.2))) | none => none) | none => none) else none) | false => (ke (.inr ())))
abbrev zrk (N : Nat) (x : qL × Int × Int × RT1) : Option ((Int) ⊕ (Unit)) := (zf4 N).L N x
def zpV (N : Nat) : FSpec where
 X := qL × RT1
 Y := Int
 ad := .mk [.lst 9, .agg RK1] [] rfl
 ret := λ y => qR (AV.v (.int .i64 y))
 t := λ x α k => (match zrk N (x.1, (x.1.length : Int), 0, x.2) with | some y3 => (match y3 with | .inl z4 => (k z4) | .inr z5 => (k (-1))) | none => none)
abbrev zuR (N : Nat) (x : qL × RT1) : Option (Int) := (zpV N).d x
def zkb (N : Nat) : List (Nat × LSpec) := [(4, zf4 N)]
def zpT : Code := Tryz.f110.body.getD .skip
theorem ziF (N : Nat) : Zb qP zdT N (zkb N) 4 (zb 4 zpT) :=
 zC (zc qP) zf (zpU N) (l := []) an (zf4 N)
def zuS (N : Nat) : Ent qP := zK (zc qP) zf (zpU N) 110 Tryz.f110 Tryz.func110 zdT N (zkb N) (l := [(4, zb 4 zpT)]) (al (ziF N) an) (zpV N)
def zw6 : Nat -> Keep × Keep := anL []
def zAy (N : Nat) : List (Ent qP) := [zuS N]
def zw7 (N : Nat) : FSpec where
 X := qL × RT1
 Y := Bool
 ad := .mk [.lst 9, .agg RK1] [] rfl
 ret := λ y => qR (AV.v (.bool y))
 t := λ x α k => (match zuR N x with | some y1 => (k (decide (y1 >= 0))) | none => none)
abbrev zAw (N : Nat) (x : qL × RT1) : Option (Bool) := (zw7 N).d x
def zAx (N : Nat) : Ent qP := zK (zc qP) zf (zAy N) 98 Tryz.f98 Tryz.func98 zw6 N [] (l := []) an (zw7 N)
def zw4 : Nat -> Keep × Keep := anL []
def zAv (N : Nat) : List (Ent qP) := [zAx N]
def zw5 (N : Nat) : FSpec where
 X := RT1 × RT0
 Y := Bool × RT0
 ad := .mk [.agg RK1, .ptr 0 0] [.row RK0] rfl
 bsh := [[none, none, none, none, none, none, none, none, none, some 9, none, none, none, none, none, none, none, none, none, none, none, none, none, none, none]]
 S := ⟨[[none]], [[]], [], [], []⟩
 ret := λ y => ⟨(AV.v (.bool y.1)), [(zu y.2)], none, [], [], [], none⟩
 t := λ x α k => (match zAw N (x.2.2.2.2.2.2.2.2.2.2.1, x.1) with | some y1 => (k (y1, x.2)) | none => none)
abbrev zAt (N : Nat) (x : RT1 × RT0) : Option (Bool × RT0) := (zw5 N).d x
def zAu (N : Nat) : Ent qP := zK (zc qP) zf (zAv N) 97 Tryz.f97 Tryz.func97 zw4 N [] (l := []) an (zw5 N)
def zdS : Nat -> Keep × Keep := anL [(4, ⟨[1, 7, 8], [], [0], [(0, 9)], [], [], [], [], false, none, []⟩, qK [4] [] [0])]
def zpP (N : Nat) : List (Ent qP) := [zAu N]
def zf3 (N : Nat) : LSpec where
 X := qL × Int × Int × RT0
 Y := (Int × RT0) ⊕ (RT0)
 dt := .mk 19 1 (zdS 4).1.toks [(0, .lst 9), (1, .fn1 97 0), (7, .int .i64), (8, .int .i64)] [(0, .row RK0)] rfl
 od := .mk 19 1 (zdS 4).2.toks [⟨.ret, [(4, .int .i64)], [(0, .row RK0)], none⟩, ⟨.exit 0, [], [(0, .row RK0)], none⟩] rfl
 b := λ u4 α kn ke => (match (decide (u4.2.2.1 < u4.2.1)) with | true => (if 0 <= u4.2.2.1 then (match u4.1[u4.2.2.1.toNat]? with | some c4 => (match jI c4 with | some e5 => (match zAt N (e5, u4.2.2.2) with | some y6 => (match y6.1 with | true => (ke (.inl (u4.2.2.1, y6.2))) | false => (kn (u4.1, u4.2.1, (i64 (u4.2.2.1 + 1)), y6.2))) | none => none) | none => none) | none => none) else none) | false => (ke (.inr u4.2.2.2)))
abbrev zrh (N : Nat) (x : qL × Int × Int × RT0) : Option ((Int × RT0) ⊕ (RT0)) := (zf3 N).L N x
def zpQ (N : Nat) : FSpec where
 X := qL × RT0
 Y := Int × RT0
 ad := .mk [.lst 9, .fn1 97 0] [.row RK0] rfl
 bsh := [[none, none, none, none, none, none, none, none, none, some 9, none, none, none, none, none, none, none, none, none, none, none, none, none, none, none]]
 S := ⟨[[none]], [[]], [], [], []⟩
 ret := λ y => ⟨(AV.v (.int .i64 y.1)), [(zu y.2)], none, [], [], [], none⟩
 t := λ x α k => (match zrh N (x.1, (x.1.length : Int), 0, x.2) with | some y7 => (match y7 with | .inl z8 => (k z8) | .inr z9 => (k ((-1), z9))) | none => none)
abbrev zuN (N : Nat) (x : qL × RT0) : Option (Int × RT0) := (zpQ N).d x
def zj9 (N : Nat) : List (Nat × LSpec) := [(4, zf3 N)]
def zpO : Code := Tryz.f109.body.getD .skip
theorem ziE (N : Nat) : Zb qP zdS N (zj9 N) 4 (zb 4 zpO) :=
 zC (zc qP) zf (zpP N) (l := []) an (zf3 N)
def zuO (N : Nat) : Ent qP := zK (zc qP) zf (zpP N) 109 Tryz.f109 Tryz.func109 zdS N (zj9 N) (l := [(4, zb 4 zpO)]) (al (ziE N) an) (zpQ N)
def zw2 : Nat -> Keep × Keep := anL []
def zAs (N : Nat) : List (Ent qP) := [zuO N]
def zw3 (N : Nat) : FSpec where
 X := qL × RT0
 Y := Bool × RT0
 ad := .mk [.lst 9, .fn1 97 0] [.row RK0] rfl
 bsh := [[none, none, none, none, none, none, none, none, none, some 9, none, none, none, none, none, none, none, none, none, none, none, none, none, none, none]]
 S := ⟨[[none]], [[none, none, none, none, none, none, none, none, none, some 9, none, none, none, none, none, none, none, none, none, none, none, none, none, none, none]], [], [], []⟩
 ret := λ y => ⟨(AV.v (.bool y.1)), [(zu y.2)], none, [], [], [], none⟩
 t := λ x α k => (match zuN N x with | some y1 => (k ((decide (y1.1 >= 0)), y1.2)) | none => none)
abbrev zAq (N : Nat) (x : qL × RT0) : Option (Bool × RT0) := (zw3 N).d x
def zAr (N : Nat) : Ent qP := zK (zc qP) zf (zAs N) 96 Tryz.f96 Tryz.func96 zw2 N [] (l := []) an (zw3 N)
def zwz : Nat -> Keep × Keep := anL []
def zz0 (N : Nat) : List (Ent qP) := [zAr N]
def zwA (N : Nat) : FSpec where
 X := RT0 × RT0
 Y := Bool
 ad := .mk [.agg RK0, .agg RK0] [] rfl
 ret := λ y => qR (AV.v (.bool y))
 t := λ x α k => (match zAq N (x.1.2.2.2.2.2.2.2.2.2.1, x.2) with | some y1 => (k y1.1) | none => none)
abbrev zzY (N : Nat) (x : RT0 × RT0) : Option (Bool) := (zwA N).d x
def zzZ (N : Nat) : Ent qP := zK (zc qP) zf (zz0 N) 78 Tryz.f78 Tryz.func78 zwz N [] (l := []) an (zwA N)
def J0 : Nat -> Keep × Keep := anL [(2, ⟨[0, 2, 3, 4, 12, 13], [], [0, 1, 2, 3, 4, 5], [(11, 1)], [], [], [], [4, 5], false, none, []⟩, ⟨[], [], [0, 1, 2, 3, 4, 5], [], [], [], [], [4, 5], false, none, []⟩), (14, ⟨[0, 2, 3, 4, 6, 7, 12, 13, 30, 31], [], [0, 1, 2, 3, 4, 5, 7], [(11, 1), (29, 25)], [], [], [], [4, 5], false, none, []⟩, ⟨[0, 2, 3, 4, 12, 13], [], [0, 1, 2, 3, 4, 5], [(11, 1)], [], [], [], [4, 5], false, none, []⟩)]
def zlI (N : Nat) : List (Ent qP) := [znM N, zzZ N]
def zd4 (N : Nat) : LSpec where
 X := qL × qL × Int × Int × Int × Int × Int × qL × Nat × qL × Nat × qA × qA × qL
 Y := (qL × Int × Int × qL × Nat × qL × Nat × qA × qA)
 dt := .mk 58 6 (J0 14).1.toks [(11, .lst 1), (29, .lst 25), (0, .fn0 78), (2, .ptr 1 0), (3, .ptr 2 0), (4, .ptr 3 0), (6, .int .i64), (7, .ptr 7 0), (12, .int .i64), (13, .int .i64), (30, .int .i64), (31, .int .i64)] [(0, .cells [.lst 1]), (1, .cells [.vs0 4 1]), (2, .cells [.lst 25]), (3, .cells [.vs0 5 1]), (4, .tt), (5, .tt), (7, .cells [.lst 29])] rfl
 od := .mk 58 6 (J0 14).2.toks [⟨.exit 2, [(11, .lst 1), (0, .fn0 78), (2, .ptr 1 0), (3, .ptr 2 0), (4, .ptr 3 0), (12, .int .i64), (13, .int .i64)], [(0, .cells [.lst 1]), (1, .cells [.vs0 4 1]), (2, .cells [.lst 25]), (3, .cells [.vs0 5 1]), (4, .tt), (5, .tt)], none⟩] rfl
 b := λ u14 α kn ke => (match (decide (u14.2.2.2.2.2.2.1 < u14.2.2.2.2.2.1)) with | true => (if 0 <= u14.2.2.2.2.2.2.1 then (match u14.2.1[u14.2.2.2.2.2.2.1.toNat]? with | some c12 => (match zfZ c12 with | some e13 => (if 0 <= u14.2.2.2.2.2.2.1 /\ u14.2.2.2.2.2.2.1 < (u14.2.2.2.2.2.2.2.2.2.2.1 : Int) then (match u14.2.2.2.2.2.2.2.2.2.2.2.2.1[((0 + u14.2.2.2.2.2.2.1.toNat) * 1)]? with | some x14 => (match x14 with | .v (.bool b15) => (match (!b15) with | true => (match zlh N u14.2.2.2.2.2.2.2.2.2.2.2.2.2 with | some y16 => (match zzY N ((zm y16), e13) with | some y17 => (match y17 with | true => (if 0 <= u14.2.2.1 /\ u14.2.2.1 < (u14.2.2.2.2.2.2.2.2.1 : Int) then (if ((0 + u14.2.2.1.toNat) * 1) + 1 <= u14.2.2.2.2.2.2.2.2.2.2.2.1.length then (if 0 <= u14.2.2.2.2.2.2.1 /\ u14.2.2.2.2.2.2.1 < (u14.2.2.2.2.2.2.2.2.2.2.1 : Int) then (if ((0 + u14.2.2.2.2.2.2.1.toNat) * 1) + 1 <= u14.2.2.2.2.2.2.2.2.2.2.2.2.1.length then (ke (u14.1, u14.2.2.2.1, u14.2.2.2.2.1, u14.2.2.2.2.2.2.2.1, u14.2.2.2.2.2.2.2.2.1, u14.2.2.2.2.2.2.2.2.2.1, u14.2.2.2.2.2.2.2.2.2.2.1, ((splice u14.2.2.2.2.2.2.2.2.2.2.2.1 ((0 + u14.2.2.1.toNat) * 1) [(AV.v (.int .i64 u14.2.2.2.2.2.2.1))]).map dat0), ((splice u14.2.2.2.2.2.2.2.2.2.2.2.2.1 ((0 + u14.2.2.2.2.2.2.1.toNat) * 1) [(AV.v (.bool true))]).map dat0))) else none) else none) else none) else none) | false => (kn (u14.1, u14.2.1, u14.2.2.1, u14.2.2.2.1, u14.2.2.2.2.1, u14.2.2.2.2.2.1, (i64 (u14.2.2.2.2.2.2.1 + 1)), u14.2.2.2.2.2.2.2.1, u14.2.2.2.2.2.2.2.2.1, u14.2.2.2.2.2.2.2.2.2.1, u14.2.2.2.2.2.2.2.2.2.2.1, (u14.2.2.2.2.2.2.2.2.2.2.2.1.map dat0), (u14.2.2.2.2.2.2.2.2.2.2.2.2.1.map dat0), u14.2.2.2.2.2.2.2.2.2.2.2.2.2))) | none => none) | none => none) | false => (kn (u14.1, u14.2.1, u14.2.2.1, u14.2.2.2.1, u14.2.2.2.2.1, u14.2.2.2.2.2.1, (i64 (u14.2.2.2.2.2.2.1 + 1)), u14.2.2.2.2.2.2.2.1, u14.2.2.2.2.2.2.2.2.1, u14.2.2.2.2.2.2.2.2.2.1, u14.2.2.2.2.2.2.2.2.2.2.1, (u14.2.2.2.2.2.2.2.2.2.2.2.1.map dat0), (u14.2.2.2.2.2.2.2.2.2.2.2.2.1.map dat0), u14.2.2.2.2.2.2.2.2.2.2.2.2.2))) | _ => none) | none => none) else none) | none => none) | none => none) else none) | false => (ke (u14.1, u14.2.2.2.1, u14.2.2.2.2.1, u14.2.2.2.2.2.2.2.1, u14.2.2.2.2.2.2.2.2.1, u14.2.2.2.2.2.2.2.2.2.1, u14.2.2.2.2.2.2.2.2.2.2.1, (u14.2.2.2.2.2.2.2.2.2.2.2.1.map dat0), (u14.2.2.2.2.2.2.2.2.2.2.2.2.1.map dat0))))
abbrev znV (N : Nat) (x : qL × qL × Int × Int × Int × Int × Int × qL × Nat × qL × Nat × qA × qA × qL) : Option ((qL × Int × Int × qL × Nat × qL × Nat × qA × qA)) := (zd4 N).L N x
def zgl (N : Nat) : LSpec where
 X := qL × Int × Int × qL × Nat × qL × Nat × qA × qA
 Y := (qL × Nat × qL × Nat × qA × qA)
 dt := .mk 58 6 (J0 2).1.toks [(11, .lst 1), (0, .fn0 78), (2, .ptr 1 0), (3, .ptr 2 0), (4, .ptr 3 0), (12, .int .i64), (13, .int .i64)] [(0, .cells [.lst 1]), (1, .cells [.vs0 4 1]), (2, .cells [.lst 25]), (3, .cells [.vs0 5 1]), (4, .tt), (5, .tt)] rfl
 od := .mk 58 6 (J0 2).2.toks [⟨.exit 0, [], [(0, .cells [.lst 1]), (1, .cells [.vs0 4 1]), (2, .cells [.lst 25]), (3, .cells [.vs0 5 1]), (4, .tt), (5, .tt)], none⟩] rfl
 b := λ u2 α kn ke => (match (decide (u2.2.2.1 < u2.2.1)) with | true => (if 0 <= u2.2.2.1 then (match u2.1[u2.2.2.1.toNat]? with | some c19 => (match ze2 c19 with | some e20 => (if 0 <= u2.2.2.1 /\ u2.2.2.1 < (u2.2.2.2.2.1 : Int) then (match u2.2.2.2.2.2.2.2.1[((0 + u2.2.2.1.toNat) * 1)]? with | some x21 => (match x21 with | .v (.int q23 n22) => (if q23 = .i64 then (match (decide (n22 >= 0)) with | true => (kn (u2.1, u2.2.1, (i64 (u2.2.2.1 + 1)), u2.2.2.2.1, u2.2.2.2.2.1, u2.2.2.2.2.2.1, u2.2.2.2.2.2.2.1, (u2.2.2.2.2.2.2.2.1.map dat0), (u2.2.2.2.2.2.2.2.2.map dat0))) | false => (match ((e20.1.length : Int) == 0) with | true => (kn (u2.1, u2.2.1, (i64 (u2.2.2.1 + 1)), u2.2.2.2.1, u2.2.2.2.2.1, u2.2.2.2.2.2.1, u2.2.2.2.2.2.2.1, (u2.2.2.2.2.2.2.2.1.map dat0), (u2.2.2.2.2.2.2.2.2.map dat0))) | false => (match znV N (u2.1, u2.2.2.2.2.2.1, u2.2.2.1, u2.2.1, u2.2.2.1, (u2.2.2.2.2.2.1.length : Int), 0, u2.2.2.2.1, u2.2.2.2.2.1, u2.2.2.2.2.2.1, u2.2.2.2.2.2.2.1, (u2.2.2.2.2.2.2.2.1.map dat0), (u2.2.2.2.2.2.2.2.2.map dat0), e20.1) with | some y24 => (kn (y24.1, y24.2.1, (i64 (y24.2.2.1 + 1)), y24.2.2.2.1, y24.2.2.2.2.1, y24.2.2.2.2.2.1, y24.2.2.2.2.2.2.1, (y24.2.2.2.2.2.2.2.1.map dat0), (y24.2.2.2.2.2.2.2.2.map dat0))) | none => none))) else none) | _ => none) | none => none) else none) | none => none) | none => none) else none) | false => (ke (u2.2.2.2.1, u2.2.2.2.2.1, u2.2.2.2.2.2.1, u2.2.2.2.2.2.2.1, (u2.2.2.2.2.2.2.2.1.map dat0), (u2.2.2.2.2.2.2.2.2.map dat0))))
abbrev zsp (N : Nat) (x : qL × Int × Int × qL × Nat × qL × Nat × qA × qA) : Option ((qL × Nat × qL × Nat × qA × qA)) := (zgl N).L N x
def zqt (N : Nat) : FSpec where
 X := qL × Nat × qL × Nat × qA × qA
 Y := qL × Nat × qL × Nat × qA × qA
 ad := .mk [.fn0 78, .ptr 0 0, .ptr 1 0, .ptr 2 0, .ptr 3 0] [.cells [.lst 1], .cells [.vs0 4 1], .cells [.lst 25], .cells [.vs0 5 1], .tt, .tt] rfl
 bsh := [[some 1], [none], [some 25], [none], [], []]
 S := ⟨[], [[some 1], [some 2000001], [some 25], [some 2000001], [], []], [], [], [4, 5]⟩
 ret := λ y => ⟨(AV.tup []), [[(AV.list 1 y.1 none)], [(AV.vs 4 0 y.2.1 1)], [(AV.list 25 y.2.2.1 none)], [(AV.vs 5 0 y.2.2.2.1 1)], y.2.2.2.2.1, y.2.2.2.2.2], none, [], [], [4, 5], none⟩
 t := λ x α k => (match zsp N (x.1, (x.1.length : Int), 0, x.1, x.2.1, x.2.2.1, x.2.2.2.1, (x.2.2.2.2.1.map dat0), (x.2.2.2.2.2.map dat0)) with | some y25 => (k (y25.1, y25.2.1, y25.2.2.1, y25.2.2.2.1, (y25.2.2.2.2.1.map dat0), (y25.2.2.2.2.2.map dat0))) | none => none)
abbrev zwv (N : Nat) (x : qL × Nat × qL × Nat × qA × qA) : Option (qL × Nat × qL × Nat × qA × qA) := (zqt N).d x
def zgm (N : Nat) : List (Nat × LSpec) := [(2, zgl N), (14, zd4 N)]
def ze0 : Code := Tryz.f76.body.getD .skip
theorem zb4 (N : Nat) : Zb qP J0 N (zgm N) 14 (zb 14 ze0) :=
 zC (zc qP) zf (zlI N) (l := []) an (zd4 N)
theorem zi1 (N : Nat) : Zb qP J0 N (zgm N) 2 (zb 2 ze0) :=
 zC (zc qP) zf (zlI N) (l := [(14, zb 14 ze0)]) (al (zb4 N) an) (zgl N)
def zww (N : Nat) : Ent qP := zK (zc qP) zf (zlI N) 76 Tryz.f76 Tryz.func76 J0 N (zgm N) (l := [(2, zb 2 ze0), (14, zb 14 ze0)]) (al (zi1 N) (al (zb4 N) an)) (zqt N)
def zvL : Nat -> Keep × Keep := anF [] [(100006, ([], [((5, 0), 1)]))]
def zzp (N : Nat) : List (Ent qP) := [zws N, zzU N, zww N]
def zvM (N : Nat) : FSpec where
 X := qL × qL
 Y := qL
 ad := .mk [.ags [.sl 1], .lst 25] [] rfl
 S := ⟨[[some 2000001]], [], [], [], []⟩
 ret := λ y => ⟨(AV.list 1 y (some 2560000000)), [], none, [], [2560000000], [], none⟩
 t := λ x α k => (match zwr N ([[(AV.v (.int .i64 (-1)))]], (x.1.length : Int)) with | some y1 => (if 0 <= (x.2.length : Int) /\ (x.2.length : Int) <= (x.2.length : Int) /\ (x.2.length : Int).toNat * 1 <= ze then (match zzT N (x.1, y1.1, x.2, ((x.2.length : Int).toNat), ((y1.2.map dat0).map dat0), ((List.replicate (x.2.length : Int).toNat (AV.v (.bool false))).map dat0)) with | some y2 => (match zwv N (y2.1, y2.2.1, y2.2.2.1, y2.2.2.2.1, (y2.2.2.2.2.1.map dat0), (y2.2.2.2.2.2.map dat0)) with | some y3 => (if y3.2.1 * 1 <= y3.2.2.2.2.1.length then (k (zo (y3.2.2.2.2.1.take (y3.2.1 * 1)) 1 y3.2.1)) else none) | none => none) | none => none) else none) | none => none)
abbrev zzn (N : Nat) (x : qL × qL) : Option (qL) := (zvM N).d x
def zzo (N : Nat) : Ent qP := zK (zx qP [12]) zf (zzp N) 40 Tryz.f40 Tryz.func40 zvL N [] (l := []) an (zvM N)
end
end
section
noncomputable section
open Go.RowKit
set_option maxRecDepth 4000
set_option maxHeartbeats 4000000
def zwH : Nat -> Keep × Keep := anL []
def zz9 (N : Nat) : List (Ent qP) := []
def zsu (N : Nat) : FSpec where
 X := qL × Int
 Y := Bool
 ad := .mk [.ags [.sl 1], .int .i64] [] rfl
 ret := λ y => qR (AV.v (.bool y))
 t := λ x α k => (match (decide (x.2 >= 0)) with | true => (k (decide (x.2 < (x.1.length : Int)))) | false => (k false))
abbrev zlN (N : Nat) (x : qL × Int) : Option (Bool) := (zsu N).d x
def zz8 (N : Nat) : Ent qP := zK (zc qP) zf (zz9 N) 83 Tryz.f83 Tryz.func83 zwH N [] (l := []) an (zsu N)
def zv4 : Nat -> Keep × Keep := anL []
def zzA (N : Nat) : List (Ent qP) := []
def zv6 (N : Nat) : FSpec where
 X := Int
 Y := Bool
 ad := .mk [.int .i64] [] rfl
 ret := λ y => qR (AV.v (.bool y))
 t := λ x α k => (if 0 <= x /\ x < 7 then (match ((gtab3.map AV.v).drop (x.toNat * 1))[0]? with | some x1 => (match x1 with | .v (.bool b2) => (match b2 with | true => (k true) | false => (k (x == 6))) | _ => none) | none => none) else none)
abbrev znN (N : Nat) (x : Int) : Option (Bool) := (zv6 N).d x
def zv5 (N : Nat) : Ent qP := zK (zc qP) zf (zzA N) 54 Tryz.f54 Tryz.func54 zv4 N [] (l := []) an (zv6 N)
def JZ : Nat -> Keep × Keep := anL [(5, ⟨[2, 3, 11, 12], [], [2, 3], [(10, 1)], [((2, 0), 1)], [], [((3, 0), 1)], [], false, some 2012288, []⟩, ⟨[2, 3], [], [2, 3], [], [((2, 0), 1)], [], [((3, 0), 1)], [], false, some 2012288, []⟩), (16, ⟨[2, 3, 11, 12, 18, 19], [(6, 29)], [2, 3], [(10, 1), (17, 29)], [((2, 0), 1)], [], [((3, 0), 1)], [], false, some 2012288, []⟩, ⟨[2, 3, 11, 12], [(6, 29)], [2, 3], [(10, 1)], [((2, 0), 1)], [], [((3, 0), 1)], [], false, some 2012288, []⟩)]
def zlf (N : Nat) : List (Ent qP) := [znO N]
def Zo (N : Nat) : LSpec where
 X := qL × qL × qL × Int × Int × Int × Int × qL × Nat × qA × Nat × Nat
 Y := (qL × qL × Int × Int × qL × Nat × qA × Nat × Nat)
 dt := .fm 41 0 (JZ 16).1.toks 2012288 [(6, .tok 29 1280000384), (10, .lst 1), (17, .lst 29), (2, .ptr 2 0), (3, .ptr 3 0), (11, .int .i64), (12, .int .i64), (18, .int .i64), (19, .int .i64)] [(2, .cells [.tok 1 6400524288]), (3, .cells [.vs0 2012288 1]), (2012288, .tt)] rfl
 od := .mk 41 0 (JZ 16).2.toks [⟨.exit 2, [(6, .tok 29 1280000384), (10, .lst 1), (2, .ptr 2 0), (3, .ptr 3 0), (11, .int .i64), (12, .int .i64)], [(2, .cells [.tok 1 6400524288]), (3, .cells [.vs0 2012288 1]), (2012288, .tt)], some 2012288⟩] rfl
 b := λ u16 α kn ke => (match (decide (u16.2.2.2.2.2.2.1 < u16.2.2.2.2.2.1)) with | true => (if 0 <= u16.2.2.2.2.2.2.1 then (match u16.2.2.1[u16.2.2.2.2.2.2.1.toNat]? with | some c6 => (match zgs c6 with | some e7 => (match zcX N (zm e7) with | some y8 => (if (u16.1.length + [(zp (e7.1, e7.2.1, e7.2.2.1, e7.2.2.2.1, y8))].length) * 288 <= ze then (kn ((u16.1 ++ [(zp (e7.1, e7.2.1, e7.2.2.1, e7.2.2.2.1, y8))]), u16.2.1, u16.2.2.1, u16.2.2.2.1, u16.2.2.2.2.1, u16.2.2.2.2.2.1, (i64 (u16.2.2.2.2.2.2.1 + 1)), u16.2.2.2.2.2.2.2.1, u16.2.2.2.2.2.2.2.2.1, (u16.2.2.2.2.2.2.2.2.2.1.map datF), u16.2.2.2.2.2.2.2.2.2.2)) else none) | none => none) | none => none) | none => none) else none) | false => (ke (u16.1, u16.2.1, u16.2.2.2.1, u16.2.2.2.2.1, u16.2.2.2.2.2.2.2.1, u16.2.2.2.2.2.2.2.2.1, (u16.2.2.2.2.2.2.2.2.2.1.map datF), u16.2.2.2.2.2.2.2.2.2.2)))
abbrev zhv (N : Nat) (x : qL × qL × qL × Int × Int × Int × Int × qL × Nat × qA × Nat × Nat) : Option ((qL × qL × Int × Int × qL × Nat × qA × Nat × Nat)) := (Zo N).L N x
def Z5 (N : Nat) : LSpec where
 X := qL × Int × Int × qL × Nat × qA × Nat × Nat
 Y := (qL × Nat × qA × Nat × Nat)
 dt := .fm 41 0 (JZ 5).1.toks 2012288 [(10, .lst 1), (2, .ptr 2 0), (3, .ptr 3 0), (11, .int .i64), (12, .int .i64)] [(2, .cells [.tok 1 6400524288]), (3, .cells [.vs0 2012288 1]), (2012288, .tt)] rfl
 od := .mk 41 0 (JZ 5).2.toks [⟨.exit 0, [(2, .ptr 2 0), (3, .ptr 3 0)], [(2, .cells [.tok 1 6400524288]), (3, .cells [.vs0 2012288 1]), (2012288, .tt)], some 2012288⟩] rfl
 b := λ u5 α kn ke => (match (decide (u5.2.2.1 < u5.2.1)) with | true => (if 0 <= u5.2.2.1 then (match u5.1[u5.2.2.1.toNat]? with | some c10 => (match ze2 c10 with | some e11 => (match zhv N (([] : qL), u5.1, e11.1, u5.2.1, u5.2.2.1, (e11.1.length : Int), 0, u5.2.2.2.1, u5.2.2.2.2.1, (u5.2.2.2.2.2.1.map datF), u5.2.2.2.2.2.2) with | some y12 => (if (y12.2.2.2.2.2.2.2.2 = y12.2.2.2.2.2.1 /\ y12.2.2.2.2.2.2.2.1 <= y12.2.2.2.2.2.2.2.2) /\ y12.2.2.2.2.2.1 * 1 <= y12.2.2.2.2.2.2.1.length /\ (y12.2.2.2.2.2.1 + 1) * 24 <= ze then (kn (y12.2.1, y12.2.2.1, (i64 (y12.2.2.2.1 + 1)), y12.2.2.2.2.1, (y12.2.2.2.2.2.1 + 1), ((y12.2.2.2.2.2.2.1.take (y12.2.2.2.2.2.1 * 1) ++ [AV.list 29 y12.1 (some (TOB + y12.2.2.2.2.2.2.2.2))]).map datF), y12.2.2.2.2.2.2.2.1, (y12.2.2.2.2.2.2.2.2 + 1))) else none) | none => none) | none => none) | none => none) else none) | false => (ke (u5.2.2.2.1, u5.2.2.2.2.1, (u5.2.2.2.2.2.1.map datF), u5.2.2.2.2.2.2)))
abbrev zle (N : Nat) (x : qL × Int × Int × qL × Nat × qA × Nat × Nat) : Option ((qL × Nat × qA × Nat × Nat)) := (Z5 N).L N x
def zlg (N : Nat) : FSpec where
 X := qL
 Y := Nat × qA × Nat × Nat
 ad := .mk [.ags [.sl 1]] [] rfl
 S := ⟨[[some 1]], [], [], [], []⟩
 bm := true
 ret := λ y => ⟨(AV.agg [(AV.vs 0 0 y.1 1)]), [], some y.2.1, [], [], [], some (y.2.2.1, y.2.2.2)⟩
 t := λ x α k => (match zle N (x, (x.length : Int), 0, ([] : qL), 0, ([] : List AV), 0, 0) with | some y13 => (k (y13.2.1, (y13.2.2.1.map datF), y13.2.2.2)) | none => none)
abbrev zhu (N : Nat) (x : qL) : Option (Nat × qA × Nat × Nat) := (zlg N).d x
def zge (N : Nat) : List (Nat × LSpec) := [(5, Z5 N), (16, Zo N)]
def zeY : Code := Tryz.f52.body.getD .skip
theorem zbY (N : Nat) : Zb qP JZ N (zge N) 16 (zb 16 zeY) :=
 zC (zx qP [36, 37]) zf (zlf N) (l := []) an (Zo N)
theorem ziY (N : Nat) : Zb qP JZ N (zge N) 5 (zb 5 zeY) :=
 zC (zx qP [36, 37]) zf (zlf N) (l := [(16, zb 16 zeY)]) (al (zbY N) an) (Z5 N)
def zqf (N : Nat) : Ent qP := zK (zx qP [36, 37]) zf (zlf N) 52 Tryz.f52 Tryz.func52 JZ N (zge N) (l := [(5, zb 5 zeY), (16, zb 16 zeY)]) (al (ziY N) (al (zbY N) an)) (zlg N)
def jJ : Nat -> Keep × Keep := anF [(2, ⟨[1, 3, 5, 6], [], [3, 5, 6], [], [((6, 0), 1)], [], [], [], true, none, []⟩, ⟨[1, 3, 5, 6, 7], [], [3, 5, 6], [], [((6, 0), 1)], [], [], [], false, none, []⟩), (6, ⟨[1, 3, 5, 6], [], [3, 5, 6], [], [((6, 0), 1)], [], [], [], true, none, []⟩, ⟨[1, 3, 5, 6, 7], [], [3, 5, 6], [], [((6, 0), 1)], [], [], [], false, none, []⟩), (18, ⟨[1, 3, 5, 6, 9], [], [3, 5, 6, 9], [], [((6, 0), 1)], [], [], [], true, none, []⟩, ⟨[1, 3, 5, 6, 9, 63], [], [3, 5, 6, 9], [], [((6, 0), 1)], [], [], [], false, none, []⟩), (27, ⟨[1, 3, 5, 6, 9, 95], [], [3, 5, 6, 9], [], [((6, 0), 1)], [], [], [], true, none, []⟩, ⟨[1, 3, 5, 6], [], [3, 5, 6], [], [((6, 0), 1)], [], [], [], false, none, []⟩)] [(100019, ([], [((10, 0), 1)]))]
def zk4 (N : Nat) : List (Ent qP) := [zrK N, zwD N, zwG N, zz8 N, zv1 N, znM N, zv5 N, znO N, zqf N]
def zaG (N : Nat) : LSpec where
 X := Int × Bool × qL × RT7 × qL × RT7
 Y := (Int × qL × RT7 × qL)
 dt := .mk 120 0 (jJ 27).1.toks [(1, .int .i64), (3, .ptr 3 0), (5, .ptr 5 0), (6, .ptr 6 0), (9, .ptr 9 0), (95, .bool)] [(3, .cells [.lst 1]), (5, .row RK7), (6, .cells [.tok 1 6401572864]), (9, .row RK7)] rfl
 od := .mk 120 0 (jJ 27).2.toks [⟨.normal, [(1, .int .i64), (3, .ptr 3 0), (5, .ptr 5 0), (6, .ptr 6 0)], [(3, .cells [.lst 1]), (5, .row RK7), (6, .cells [.tok 1 6401572864])], none⟩] rfl
 b := λ u27 α kn ke => (match u27.2.1 with | true => (ke (u27.1, u27.2.2.1, (u27.2.2.2.1.1, u27.2.2.2.1.2.1, u27.2.2.2.1.2.2.1, u27.2.2.2.1.2.2.2.1, u27.2.2.2.2.2.2.2.2.2), u27.2.2.2.2.1)) | false => (ke (u27.1, u27.2.2.1, u27.2.2.2.1, u27.2.2.2.2.1)))
abbrev zk3 (N : Nat) (x : Int × Bool × qL × RT7 × qL × RT7) : Option ((Int × qL × RT7 × qL)) := (zaG N).L N x
def Jm (N : Nat) : LSpec where
 X := Int × qL × RT7 × qL × RT7
 Y := (Int × Bool × qL × RT7 × qL × RT7)
 dt := .mk 120 0 (jJ 18).1.toks [(1, .int .i64), (3, .ptr 3 0), (5, .ptr 5 0), (6, .ptr 6 0), (9, .ptr 9 0)] [(3, .cells [.lst 1]), (5, .row RK7), (6, .cells [.tok 1 6401572864]), (9, .row RK7)] rfl
 od := .mk 120 0 (jJ 18).2.toks [⟨.normal, [(1, .int .i64), (3, .ptr 3 0), (5, .ptr 5 0), (6, .ptr 6 0), (9, .ptr 9 0), (63, .bool)], [(3, .cells [.lst 1]), (5, .row RK7), (6, .cells [.tok 1 6401572864]), (9, .row RK7)], none⟩] rfl
 b := λ u18 α kn ke => (match (u18.2.2.1.1 == 5) with | true => (match (u18.2.2.1.2.2.2.1 == u18.1) with | true => (ke (u18.1, true, u18.2)) | false => (match (u18.2.2.1.1 == 6) with | true => (match znN N u18.2.2.2.2.1 with | some y30 => (ke (u18.1, y30, u18.2)) | none => none) | false => (ke (u18.1, false, u18.2)))) | false => (match (u18.2.2.1.1 == 6) with | true => (match znN N u18.2.2.2.2.1 with | some y31 => (ke (u18.1, y31, u18.2)) | none => none) | false => (ke (u18.1, false, u18.2))))
abbrev zgd (N : Nat) (x : Int × qL × RT7 × qL × RT7) : Option ((Int × Bool × qL × RT7 × qL × RT7)) := (Jm N).L N x
def zak (N : Nat) : LSpec where
 X := Int × qL × RT7 × qL
 Y := (Int × Int × qL × RT7 × qL) ⊕ (Int × qL × RT7 × qL)
 dt := .mk 120 0 (jJ 6).1.toks [(1, .int .i64), (3, .ptr 3 0), (5, .ptr 5 0), (6, .ptr 6 0)] [(3, .cells [.lst 1]), (5, .row RK7), (6, .cells [.tok 1 6401572864])] rfl
 od := .mk 120 0 (jJ 6).2.toks [⟨.ret, [(1, .int .i64), (3, .ptr 3 0), (5, .ptr 5 0), (6, .ptr 6 0), (7, .int .i64)], [(3, .cells [.lst 1]), (5, .row RK7), (6, .cells [.tok 1 6401572864])], none⟩, ⟨.normal, [(1, .int .i64), (3, .ptr 3 0), (5, .ptr 5 0), (6, .ptr 6 0)], [(3, .cells [.lst 1]), (5, .row RK7), (6, .cells [.tok 1 6401572864])], none⟩] rfl
 b := λ u6 α kn ke => (match zlN N (u6.2.1, u6.1) with | some y17 => (match (!y17) with | true => (ke (.inl (u6.1, 6, u6.2.1, u6.2.2.1, ([] : qL)))) | false => (match (u6.2.2.1.1 == 5) with | true => (match zlN N (u6.2.1, u6.2.2.1.2.2.2.1) with | some y18 => (match (!y18) with | true => (ke (.inl (u6.1, 6, u6.2.1, u6.2.2.1, ([] : qL)))) | false => (ke (.inr u6))) | none => none) | false => (ke (.inr u6)))) | none => none)
abbrev zht (N : Nat) (x : Int × qL × RT7 × qL) : Option ((Int × Int × qL × RT7 × qL) ⊕ (Int × qL × RT7 × qL)) := (zak N).L N x
def JR (N : Nat) : LSpec where
 X := Int × qL × RT7 × qL
 Y := (Int × Int × qL × RT7 × qL) ⊕ (Int × qL × RT7 × qL)
 dt := .mk 120 0 (jJ 2).1.toks [(1, .int .i64), (3, .ptr 3 0), (5, .ptr 5 0), (6, .ptr 6 0)] [(3, .cells [.lst 1]), (5, .row RK7), (6, .cells [.tok 1 6401572864])] rfl
 od := .mk 120 0 (jJ 2).2.toks [⟨.ret, [(1, .int .i64), (3, .ptr 3 0), (5, .ptr 5 0), (6, .ptr 6 0), (7, .int .i64)], [(3, .cells [.lst 1]), (5, .row RK7), (6, .cells [.tok 1 6401572864])], none⟩, ⟨.normal, [(1, .int .i64), (3, .ptr 3 0), (5, .ptr 5 0), (6, .ptr 6 0)], [(3, .cells [.lst 1]), (5, .row RK7), (6, .cells [.tok 1 6401572864])], none⟩] rfl
 b := λ u2 α kn ke => (match zkA N u2.2.1 with | some y7 => (match (!y7) with | true => (ke (.inl (u2.1, 1, u2.2.1, u2.2.2.1, ([] : qL)))) | false => (match zgo N u2.2.2.1.2.2.1 with | some y8 => (match (!y8) with | true => (ke (.inl (u2.1, 1, u2.2.1, u2.2.2.1, ([] : qL)))) | false => (match (u2.2.2.1.1 == 3) with | true => (match zcY N (zm u2.2.2.1) with | some y9 => (match (!y9) with | true => (ke (.inl (u2.1, 1, u2.2.1, u2.2.2.1, ([] : qL)))) | false => (ke (.inr u2))) | none => none) | false => (ke (.inr u2)))) | none => none)) | none => none)
abbrev zhs (N : Nat) (x : Int × qL × RT7 × qL) : Option ((Int × Int × qL × RT7 × qL) ⊕ (Int × qL × RT7 × qL)) := (JR N).L N x
def zrY (N : Nat) : FSpec where
 X := qL × Int × RT7
 Y := qL × Int
 ad := .mk [.ags [.sl 1], .int .i64, .agg RK7] [] rfl
 S := ⟨[[some 1], [none]], [], [], [], []⟩
 ret := λ y => qR (AV.tup [(AV.agg [(AV.list 1 y.1 none)]), (AV.v (.int .i64 y.2))])
 t := λ x α k => (match zhs N (x.2.1, x.1, x.2.2, ([] : qL)) with | some y10 => (match y10 with | .inl z11 => (k (z11.2.2.2.2, z11.2.1)) | .inr z12 => (match zht N z12 with | some y19 => (match y19 with | .inl z20 => (k (z20.2.2.2.2, z20.2.1)) | .inr z21 => (match ziX N (z21.2.1, z21.2.2.1.2.1) with | some y22 => (match (y22 != 0) with | true => (k (([] : qL), y22)) | false => (if 0 <= z21.1 then (match z21.2.1[z21.1.toNat]? with | some c23 => (match ze2 c23 with | some e24 => (match zlh N e24.1 with | some y25 => (match zgd N (z21.1, z21.2.1, z21.2.2.1, z21.2.2.2, y25) with | some y32 => (match y32.2.1 with | true => (k (([] : qL), 10)) | false => (if 0 <= y32.1 then (match y32.2.2.1[y32.1.toNat]? with | some c33 => (match (c33.drop 0)[0]? with | some x34 => (match ZW 29 x34 with | some l35 => (match ((l35.length : Int) == 100) with | true => (k (([] : qL), 8)) | false => (if 0 <= y32.2.2.2.1.1 /\ y32.2.2.2.1.1 < 7 then (match ((gtab2.map AV.v).drop (y32.2.2.2.1.1.toNat * 1))[0]? with | some x36 => (match x36 with | .v (.bool b37) => (match zk3 N (y32.1, b37, y32.2.2) with | some y38 => (match zcX N (zm y38.2.2.1) with | some y39 => (match zhu N y38.2.1 with | some y40 => (if 0 <= y38.1 /\ y38.1 < (y40.1 : Int) then (match (y40.2.1.map (datJ y40.2.2.1 y40.2.2.2))[(((0 + y38.1.toNat) * 1) + 0)]? with | some c41 => (match c41 with | .list n42 l43 (some q44) => (if n42 = 29 /\ q44 = TOB + (((0 + y38.1.toNat) * 1) + 0) /\ y40.2.2.1 <= (((0 + y38.1.toNat) * 1) + 0) /\ (((0 + y38.1.toNat) * 1) + 0) < y40.2.2.2 then (if (l43.length + [(zp (y38.2.2.1.1, y38.2.2.1.2.1, y38.2.2.1.2.2.1, y38.2.2.1.2.2.2.1, y39))].length) * 288 <= ze then (if 0 <= y38.1 /\ y38.1 < (y40.1 : Int) then (if (((0 + y38.1.toNat) * 1) + 0) + 1 <= (y40.2.1.map (datJ y40.2.2.1 y40.2.2.2)).length then (if y40.1 * 1 <= (splice (y40.2.1.map (datJ y40.2.2.1 y40.2.2.2)) (((0 + y38.1.toNat) * 1) + 0) [(AV.list 29 (l43 ++ [(zp (y38.2.2.1.1, y38.2.2.1.2.1, y38.2.2.1.2.2.1, y38.2.2.1.2.2.2.1, y39))]) (some 7424))]).length then (k ((zo ((splice (y40.2.1.map (datJ y40.2.2.1 y40.2.2.2)) (((0 + y38.1.toNat) * 1) + 0) [(AV.list 29 (l43 ++ [(zp (y38.2.2.1.1, y38.2.2.1.2.1, y38.2.2.1.2.2.1, y38.2.2.1.2.2.2.1, y39))]) (some 7424))]).take (y40.1 * 1)) 1 y40.1), 0)) else none) else none) else none) else none) else none) | _ => none) | none => none) else none) | none => none) | none => none) | none => none) | _ => none) | none => none) else none)) | none => none) | none => none) | none => none) else none)) | none => none) | none => none) | none => none) | none => none) else none)) | none => none)) | none => none)) | none => none)
abbrev jW (N : Nat) (x : qL × Int × RT7) : Option (qL × Int) := (zrY N).d x
def zeW (N : Nat) : List (Nat × LSpec) := [(2, JR N), (6, zak N), (18, Jm N), (27, zaG N)]
def zeV : Code := Tryz.f47.body.getD .skip
theorem ziV (N : Nat) : Zb qP jJ N (zeW N) 27 (zb 27 zeV) :=
 Jw (zx qP [104, 113]) zf (zk4 N) (l := []) an (zaG N)
theorem ziU (N : Nat) : Zb qP jJ N (zeW N) 18 (zb 18 zeV) :=
 Jw (zx qP [104, 113]) zf (zk4 N) (l := []) an (Jm N)
theorem zk6 (N : Nat) : Zb qP jJ N (zeW N) 6 (zb 6 zeV) :=
 Jw (zx qP [104, 113]) zf (zk4 N) (l := []) an (zak N)
theorem zk5 (N : Nat) : Zb qP jJ N (zeW N) 2 (zb 2 zeV) :=
 Jw (zx qP [104, 113]) zf (zk4 N) (l := []) an (JR N)
def znG (N : Nat) : Ent qP := zK (zx qP [104, 113]) zf (zk4 N) 47 Tryz.f47 Tryz.func47 jJ N (zeW N) (l := [(2, zb 2 zeV), (6, zb 6 zeV), (18, zb 18 zeV), (27, zb 27 zeV)]) (al (zk5 N) (al (zk6 N) (al (ziU N) (al (ziV N) an)))) (zrY N)
def Z9 : Nat -> Keep × Keep := anF [(16, ⟨[2, 6, 10, 12, 43, 44], [(11, 1)], [6, 10, 36, 39], [(1, 25), (42, 1)], [((6, 0), 1)], [], [], [36, 39], false, some 36, []⟩, ⟨[2, 6, 8, 10, 12], [(11, 1)], [6, 10, 36, 39], [(1, 25), (7, 1)], [((6, 0), 1)], [], [], [36, 39], false, some 36, []⟩), (27, ⟨[2, 6, 10, 12, 13, 14, 15, 16, 43, 44, 58], [(11, 1)], [6, 10, 16, 36, 39], [(1, 25), (42, 1)], [((6, 0), 1)], [], [], [36, 39], true, some 36, []⟩, ⟨[2, 6, 10, 12, 13, 14, 15, 16, 43, 44], [(11, 1)], [6, 10, 16, 36, 39], [(1, 25), (42, 1)], [((6, 0), 1)], [], [], [36, 39], false, some 36, []⟩), (33, ⟨[2, 6, 10, 12, 13, 14, 15, 16, 43, 44, 81], [(11, 1)], [6, 10, 16, 36, 39], [(1, 25), (42, 1)], [((6, 0), 1)], [], [], [36, 39], true, some 36, []⟩, ⟨[2, 6, 10, 12, 13, 15, 43, 44], [(11, 1)], [6, 10, 36, 39], [(1, 25), (42, 1)], [((6, 0), 1)], [], [], [36, 39], false, some 36, []⟩), (35, ⟨[2, 6, 10, 12, 13, 14, 15, 16, 43, 44], [(11, 1)], [6, 10, 16, 36, 39], [(1, 25), (42, 1)], [((6, 0), 1)], [], [], [36, 39], true, some 36, []⟩, ⟨[2, 6, 10, 12, 13, 14, 15, 43, 44], [(11, 1)], [6, 10, 36, 39], [(1, 25), (42, 1)], [((6, 0), 1)], [], [], [36, 39], false, some 36, []⟩), (46, ⟨[2, 6, 10, 12, 130, 131], [(11, 1)], [6, 10, 39], [(129, 25)], [((6, 0), 1)], [], [((10, 0), 1)], [39], false, none, []⟩, ⟨[6, 10], [(11, 1)], [6, 10], [], [((6, 0), 1)], [], [((10, 0), 1)], [], false, none, []⟩)] [(100035, ([], [((10, 0), 1)]))]
def ziJ (N : Nat) : List (Ent qP) := [zrK N, zvZ N, zv1 N, zqf N, zzo N, znM N, zv5 N, zv8 N, znO N]
def zf9 (N : Nat) : LSpec where
 X := qL × qL × Int × Nat × Int × Int × qL × Nat × qA × qA
 Y := (qL × qL × Nat × qA)
 dt := .mk 166 0 (Z9 46).1.toks [(11, .tok 1 1280000704), (129, .lst 25), (2, .int .i64), (6, .ptr 6 0), (10, .ptr 10 0), (12, .vs0 39 1), (130, .int .i64), (131, .int .i64)] [(6, .cells [.tok 1 6401572864]), (10, .cells [.vs0 2040960 1]), (39, .tt), (2040960, .tt)] rfl
 od := .mk 166 0 (Z9 46).2.toks [⟨.exit 3, [(11, .tok 1 1280000704), (6, .ptr 6 0), (10, .ptr 10 0)], [(6, .cells [.tok 1 6401572864]), (10, .cells [.vs0 2040960 1]), (2040960, .tt)], none⟩] rfl
 b := λ u46 α kn ke => (match (decide (u46.2.2.2.2.2.1 < u46.2.2.2.2.1)) with | true => (if 0 <= u46.2.2.2.2.2.1 then (match u46.2.1[u46.2.2.2.2.2.1.toNat]? with | some c100 => (match zfZ c100 with | some e101 => (if 0 <= u46.2.2.2.2.2.1 /\ u46.2.2.2.2.2.1 < (u46.2.2.2.1 : Int) then (match u46.2.2.2.2.2.2.2.2.1[((0 + u46.2.2.2.2.2.1.toNat) * 1)]? with | some x102 => (match x102 with | .v (.bool b103) => (match (!b103) with | true => (if (u46.1.length + [[(AV.v (.int .i64 ((u46.2.2.2.2.2.2.2.1 : Nat) : Int)))]].length) * 8 <= ze then (match zcX N e101 with | some y104 => (if u46.2.2.2.2.2.2.2.1 * 1 <= u46.2.2.2.2.2.2.2.2.2.length /\ (u46.2.2.2.2.2.2.2.1 + [[(AV.list 29 [(zp (1, u46.2.2.1, (⟨#[]⟩ : ByteArray), 0, y104))] none)]].length) * 24 <= ze then (kn ((u46.1 ++ [[(AV.v (.int .i64 ((u46.2.2.2.2.2.2.2.1 : Nat) : Int)))]]), u46.2.1, u46.2.2.1, u46.2.2.2.1, u46.2.2.2.2.1, (i64 (u46.2.2.2.2.2.1 + 1)), u46.2.2.2.2.2.2.1, (u46.2.2.2.2.2.2.2.1 + [[(AV.list 29 [(zp (1, u46.2.2.1, (⟨#[]⟩ : ByteArray), 0, y104))] none)]].length), (u46.2.2.2.2.2.2.2.2.1.map dat0), ((u46.2.2.2.2.2.2.2.2.2.take (u46.2.2.2.2.2.2.2.1 * 1) ++ [[(AV.list 29 [(zp (1, u46.2.2.1, (⟨#[]⟩ : ByteArray), 0, y104))] none)]].flatten).map dat0))) else none) | none => none) else none) | false => (kn (u46.1, u46.2.1, u46.2.2.1, u46.2.2.2.1, u46.2.2.2.2.1, (i64 (u46.2.2.2.2.2.1 + 1)), u46.2.2.2.2.2.2.1, u46.2.2.2.2.2.2.2.1, (u46.2.2.2.2.2.2.2.2.1.map dat0), (u46.2.2.2.2.2.2.2.2.2.map dat0)))) | _ => none) | none => none) else none) | none => none) | none => none) else none) | false => (ke (u46.1, u46.2.2.2.2.2.2.1, u46.2.2.2.2.2.2.2.1, (u46.2.2.2.2.2.2.2.2.2.map dat0))))
abbrev zrG (N : Nat) (x : qL × qL × Int × Nat × Int × Int × qL × Nat × qA × qA) : Option ((qL × qL × Nat × qA)) := (zf9 N).L N x
def zf8 (N : Nat) : LSpec where
 X := qL × qL × qL × Int × Nat × Int × Int × Nat × Int × Int × qL × Nat × RT7 × qA × qA × Nat × Nat
 Y := (qL × qL × qL × Int × Nat × Int × Int × Nat × Int × Int × qL × Nat × qA × qA × Nat × Nat) ⊕ (qL × qL × qL × Int × Nat × Int × Int × Nat × Int × Int × qL × Nat × qA × qA × Nat × Nat)
 dt := .fm 166 0 (Z9 35).1.toks 36 [(11, .tok 1 1280000704), (1, .lst 25), (42, .lst 1), (2, .int .i64), (6, .ptr 6 0), (10, .ptr 10 0), (12, .vs0 39 1), (13, .int .i64), (14, .int .i64), (15, .ptrV 36), (16, .ptr 16 0), (43, .int .i64), (44, .int .i64)] [(6, .cells [.tok 1 6401572864]), (10, .cells [.vs0 36 1]), (16, .row RK7), (36, .tt), (39, .tt)] rfl
 od := .mk 166 0 (Z9 35).2.toks [⟨.exit 1, [(11, .tok 1 1280000704), (1, .lst 25), (42, .lst 1), (2, .int .i64), (6, .ptr 6 0), (10, .ptr 10 0), (12, .vs0 39 1), (13, .int .i64), (14, .int .i64), (15, .ptrV 36), (43, .int .i64), (44, .int .i64)], [(6, .cells [.tok 1 6401572864]), (10, .cells [.vs0 36 1]), (36, .tt), (39, .tt)], some 36⟩, ⟨.normal, [(11, .tok 1 1280000704), (1, .lst 25), (42, .lst 1), (2, .int .i64), (6, .ptr 6 0), (10, .ptr 10 0), (12, .vs0 39 1), (13, .int .i64), (14, .int .i64), (15, .ptrV 36), (43, .int .i64), (44, .int .i64)], [(6, .cells [.tok 1 6401572864]), (10, .cells [.vs0 36 1]), (36, .tt), (39, .tt)], some 36⟩] rfl
 b := λ u35 α kn ke => (if 0 <= u35.2.2.2.2.2.2.2.2.2.2.2.2.1.1 /\ u35.2.2.2.2.2.2.2.2.2.2.2.2.1.1 < 7 then (match ((gtab0.map AV.v).drop (u35.2.2.2.2.2.2.2.2.2.2.2.2.1.1.toNat * 1))[0]? with | some x24 => (match x24 with | .v (.bool b25) => (match b25 with | true => (if 0 <= u35.2.2.2.2.2.2.1 then (match u35.2.1[u35.2.2.2.2.2.2.1.toNat]? with | some c26 => (match zfZ c26 with | some e27 => (match zli N ((zm u35.2.2.2.2.2.2.2.2.2.2.2.2.1), e27) with | some y28 => (match y28 with | true => (ke (.inl (u35.1, u35.2.1, u35.2.2.1, u35.2.2.2.1, u35.2.2.2.2.1, u35.2.2.2.2.2.1, u35.2.2.2.2.2.2.1, u35.2.2.2.2.2.2.2.1, u35.2.2.2.2.2.2.2.2.1, u35.2.2.2.2.2.2.2.2.2.1, u35.2.2.2.2.2.2.2.2.2.2.1, u35.2.2.2.2.2.2.2.2.2.2.2.1, (u35.2.2.2.2.2.2.2.2.2.2.2.2.2.1.map datF), (u35.2.2.2.2.2.2.2.2.2.2.2.2.2.2.1.map dat0), u35.2.2.2.2.2.2.2.2.2.2.2.2.2.2.2))) | false => (ke (.inr (u35.1, u35.2.1, u35.2.2.1, u35.2.2.2.1, u35.2.2.2.2.1, u35.2.2.2.2.2.1, u35.2.2.2.2.2.2.1, u35.2.2.2.2.2.2.2.1, u35.2.2.2.2.2.2.2.2.1, u35.2.2.2.2.2.2.2.2.2.1, u35.2.2.2.2.2.2.2.2.2.2.1, u35.2.2.2.2.2.2.2.2.2.2.2.1, (u35.2.2.2.2.2.2.2.2.2.2.2.2.2.1.map datF), (u35.2.2.2.2.2.2.2.2.2.2.2.2.2.2.1.map dat0), u35.2.2.2.2.2.2.2.2.2.2.2.2.2.2.2)))) | none => none) | none => none) | none => none) else none) | false => (ke (.inr (u35.1, u35.2.1, u35.2.2.1, u35.2.2.2.1, u35.2.2.2.2.1, u35.2.2.2.2.2.1, u35.2.2.2.2.2.2.1, u35.2.2.2.2.2.2.2.1, u35.2.2.2.2.2.2.2.2.1, u35.2.2.2.2.2.2.2.2.2.1, u35.2.2.2.2.2.2.2.2.2.2.1, u35.2.2.2.2.2.2.2.2.2.2.2.1, (u35.2.2.2.2.2.2.2.2.2.2.2.2.2.1.map datF), (u35.2.2.2.2.2.2.2.2.2.2.2.2.2.2.1.map dat0), u35.2.2.2.2.2.2.2.2.2.2.2.2.2.2.2)))) | _ => none) | none => none) else none)
abbrev zrF (N : Nat) (x : qL × qL × qL × Int × Nat × Int × Int × Nat × Int × Int × qL × Nat × RT7 × qA × qA × Nat × Nat) : Option ((qL × qL × qL × Int × Nat × Int × Int × Nat × Int × Int × qL × Nat × qA × qA × Nat × Nat) ⊕ (qL × qL × qL × Int × Nat × Int × Int × Nat × Int × Int × qL × Nat × qA × qA × Nat × Nat)) := (zf8 N).L N x
def zf7 (N : Nat) : LSpec where
 X := qL × qL × qL × Int × Nat × Int × Int × Nat × Int × Int × Bool × qL × Nat × RT7 × qA × qA × Nat × Nat
 Y := (qL × qL × qL × Int × Nat × Int × Nat × Int × Int × qL × Nat × qA × qA × Nat × Nat) ⊕ (qL × qL × qL × Int × Nat × Int × Nat × Int × Int × qL × Nat × qA × qA × Nat × Nat)
 dt := .fm 166 0 (Z9 33).1.toks 36 [(11, .tok 1 1280000704), (1, .lst 25), (42, .lst 1), (2, .int .i64), (6, .ptr 6 0), (10, .ptr 10 0), (12, .vs0 39 1), (13, .int .i64), (14, .int .i64), (15, .ptrV 36), (16, .ptr 16 0), (43, .int .i64), (44, .int .i64), (81, .bool)] [(6, .cells [.tok 1 6401572864]), (10, .cells [.vs0 36 1]), (16, .row RK7), (36, .tt), (39, .tt)] rfl
 od := .mk 166 0 (Z9 33).2.toks [⟨.exit 1, [(11, .tok 1 1280000704), (1, .lst 25), (42, .lst 1), (2, .int .i64), (6, .ptr 6 0), (10, .ptr 10 0), (12, .vs0 39 1), (13, .int .i64), (15, .ptrV 36), (43, .int .i64), (44, .int .i64)], [(6, .cells [.tok 1 6401572864]), (10, .cells [.vs0 36 1]), (36, .tt), (39, .tt)], some 36⟩, ⟨.normal, [(11, .tok 1 1280000704), (1, .lst 25), (42, .lst 1), (2, .int .i64), (6, .ptr 6 0), (10, .ptr 10 0), (12, .vs0 39 1), (13, .int .i64), (15, .ptrV 36), (43, .int .i64), (44, .int .i64)], [(6, .cells [.tok 1 6401572864]), (10, .cells [.vs0 36 1]), (36, .tt), (39, .tt)], some 36⟩] rfl
 b := λ u33 α kn ke => (match u33.2.2.2.2.2.2.2.2.2.2.1 with | true => (match zrF N (u33.1, u33.2.1, u33.2.2.1, u33.2.2.2.1, u33.2.2.2.2.1, u33.2.2.2.2.2.1, u33.2.2.2.2.2.2.1, u33.2.2.2.2.2.2.2.1, u33.2.2.2.2.2.2.2.2.1, u33.2.2.2.2.2.2.2.2.2.1, u33.2.2.2.2.2.2.2.2.2.2.2.1, u33.2.2.2.2.2.2.2.2.2.2.2.2.1, u33.2.2.2.2.2.2.2.2.2.2.2.2.2.1, (u33.2.2.2.2.2.2.2.2.2.2.2.2.2.2.1.map datF), (u33.2.2.2.2.2.2.2.2.2.2.2.2.2.2.2.1.map dat0), u33.2.2.2.2.2.2.2.2.2.2.2.2.2.2.2.2) with | some y59 => (match y59 with | .inl z60 => (ke (.inl (z60.1, z60.2.1, z60.2.2.1, z60.2.2.2.1, z60.2.2.2.2.1, z60.2.2.2.2.2.1, z60.2.2.2.2.2.2.2.1, z60.2.2.2.2.2.2.2.2.1, z60.2.2.2.2.2.2.2.2.2.1, z60.2.2.2.2.2.2.2.2.2.2.1, z60.2.2.2.2.2.2.2.2.2.2.2.1, (z60.2.2.2.2.2.2.2.2.2.2.2.2.1.map datF), (z60.2.2.2.2.2.2.2.2.2.2.2.2.2.1.map dat0), z60.2.2.2.2.2.2.2.2.2.2.2.2.2.2))) | .inr z61 => (match z61.2.2.2.2.2.2.2.2.2.2.2.2.1[(z61.2.2.2.2.2.2.2.1 + 0)]? with | some c62 => (match c62 with | .list n63 l64 (some q65) => (if n63 = 29 /\ q65 = TOB + (z61.2.2.2.2.2.2.2.1 + 0) /\ z61.2.2.2.2.2.2.2.2.2.2.2.2.2.2.1 <= (z61.2.2.2.2.2.2.2.1 + 0) /\ (z61.2.2.2.2.2.2.2.1 + 0) < z61.2.2.2.2.2.2.2.2.2.2.2.2.2.2.2 then (if 0 <= z61.2.2.2.2.2.2.1 then (match z61.2.1[z61.2.2.2.2.2.2.1.toNat]? with | some c66 => (match zfZ c66 with | some e67 => (match zcX N e67 with | some y68 => (if (l64.length + [(zp (1, z61.2.2.2.1, (⟨#[]⟩ : ByteArray), 0, y68))].length) * 288 <= ze then (if (z61.2.2.2.2.2.2.2.1 + 0) + 1 <= z61.2.2.2.2.2.2.2.2.2.2.2.2.1.length then (ke (.inr (z61.1, z61.2.1, z61.2.2.1, z61.2.2.2.1, z61.2.2.2.2.1, z61.2.2.2.2.2.1, z61.2.2.2.2.2.2.2.1, z61.2.2.2.2.2.2.2.2.1, z61.2.2.2.2.2.2.2.2.2.1, z61.2.2.2.2.2.2.2.2.2.2.1, z61.2.2.2.2.2.2.2.2.2.2.2.1, ((splice z61.2.2.2.2.2.2.2.2.2.2.2.2.1 (z61.2.2.2.2.2.2.2.1 + 0) [(AV.list 29 (l64 ++ [(zp (1, z61.2.2.2.1, (⟨#[]⟩ : ByteArray), 0, y68))]) (some 7040))]).map datF), (z61.2.2.2.2.2.2.2.2.2.2.2.2.2.1.map dat0), ((z61.2.2.2.2.2.2.2.1 + 0) + 1), z61.2.2.2.2.2.2.2.2.2.2.2.2.2.2.2))) else none) else none) | none => none) | none => none) | none => none) else none) else none) | _ => none) | none => none)) | none => none) | false => (match (u33.2.2.2.2.2.2.2.2.2.2.2.2.2.1.1 == 2) with | true => (ke (.inl (u33.1, u33.2.1, u33.2.2.1, u33.2.2.2.1, u33.2.2.2.2.1, u33.2.2.2.2.2.1, u33.2.2.2.2.2.2.2.1, u33.2.2.2.2.2.2.2.2.1, u33.2.2.2.2.2.2.2.2.2.1, u33.2.2.2.2.2.2.2.2.2.2.2.1, u33.2.2.2.2.2.2.2.2.2.2.2.2.1, (u33.2.2.2.2.2.2.2.2.2.2.2.2.2.2.1.map datF), (u33.2.2.2.2.2.2.2.2.2.2.2.2.2.2.2.1.map dat0), u33.2.2.2.2.2.2.2.2.2.2.2.2.2.2.2.2))) | false => (match u33.2.2.2.2.2.2.2.2.2.2.2.2.2.2.1[(u33.2.2.2.2.2.2.2.1 + 0)]? with | some c69 => (match c69 with | .list n70 l71 (some q72) => (if n70 = 29 /\ q72 = TOB + (u33.2.2.2.2.2.2.2.1 + 0) /\ u33.2.2.2.2.2.2.2.2.2.2.2.2.2.2.2.2.1 <= (u33.2.2.2.2.2.2.2.1 + 0) /\ (u33.2.2.2.2.2.2.2.1 + 0) < u33.2.2.2.2.2.2.2.2.2.2.2.2.2.2.2.2.2 then (match zcX N (zm u33.2.2.2.2.2.2.2.2.2.2.2.2.2.1) with | some y73 => (if (l71.length + [(zp (2, u33.2.2.2.1, (⟨#[]⟩ : ByteArray), 0, y73))].length) * 288 <= ze then (if (u33.2.2.2.2.2.2.2.1 + 0) + 1 <= u33.2.2.2.2.2.2.2.2.2.2.2.2.2.2.1.length then (ke (.inr (u33.1, u33.2.1, u33.2.2.1, u33.2.2.2.1, u33.2.2.2.2.1, u33.2.2.2.2.2.1, u33.2.2.2.2.2.2.2.1, u33.2.2.2.2.2.2.2.2.1, u33.2.2.2.2.2.2.2.2.2.1, u33.2.2.2.2.2.2.2.2.2.2.2.1, u33.2.2.2.2.2.2.2.2.2.2.2.2.1, ((splice u33.2.2.2.2.2.2.2.2.2.2.2.2.2.2.1 (u33.2.2.2.2.2.2.2.1 + 0) [(AV.list 29 (l71 ++ [(zp (2, u33.2.2.2.1, (⟨#[]⟩ : ByteArray), 0, y73))]) (some 4672))]).map datF), (u33.2.2.2.2.2.2.2.2.2.2.2.2.2.2.2.1.map dat0), ((u33.2.2.2.2.2.2.2.1 + 0) + 1), u33.2.2.2.2.2.2.2.2.2.2.2.2.2.2.2.2.2))) else none) else none) | none => none) else none) | _ => none) | none => none)))
abbrev zrE (N : Nat) (x : qL × qL × qL × Int × Nat × Int × Int × Nat × Int × Int × Bool × qL × Nat × RT7 × qA × qA × Nat × Nat) : Option ((qL × qL × qL × Int × Nat × Int × Nat × Int × Int × qL × Nat × qA × qA × Nat × Nat) ⊕ (qL × qL × qL × Int × Nat × Int × Nat × Int × Int × qL × Nat × qA × qA × Nat × Nat)) := (zf7 N).L N x
def zf6 (N : Nat) : LSpec where
 X := qL × qL × qL × Int × Nat × Int × Int × Nat × Int × Int × Bool × qL × Nat × RT7 × qA × qA × Nat × Nat
 Y := (qL × qL × qL × Int × Nat × Int × Int × Nat × Int × Int × qL × Nat × RT7 × qA × qA × Nat × Nat)
 dt := .fm 166 0 (Z9 27).1.toks 36 [(11, .tok 1 1280000704), (1, .lst 25), (42, .lst 1), (2, .int .i64), (6, .ptr 6 0), (10, .ptr 10 0), (12, .vs0 39 1), (13, .int .i64), (14, .int .i64), (15, .ptrV 36), (16, .ptr 16 0), (43, .int .i64), (44, .int .i64), (58, .bool)] [(6, .cells [.tok 1 6401572864]), (10, .cells [.vs0 36 1]), (16, .row RK7), (36, .tt), (39, .tt)] rfl
 od := .mk 166 0 (Z9 27).2.toks [⟨.normal, [(11, .tok 1 1280000704), (1, .lst 25), (42, .lst 1), (2, .int .i64), (6, .ptr 6 0), (10, .ptr 10 0), (12, .vs0 39 1), (13, .int .i64), (14, .int .i64), (15, .ptrV 36), (16, .ptr 16 0), (43, .int .i64), (44, .int .i64)], [(6, .cells [.tok 1 6401572864]), (10, .cells [.vs0 36 1]), (16, .row RK7), (36, .tt), (39, .tt)], some 36⟩] rfl
 b := λ u27 α kn ke => (match u27.2.2.2.2.2.2.2.2.2.2.1 with | true => (if 0 <= u27.2.2.2.2.2.2.1 /\ u27.2.2.2.2.2.2.1 < (u27.2.2.2.2.1 : Int) then (if ((0 + u27.2.2.2.2.2.2.1.toNat) * 1) + 1 <= u27.2.2.2.2.2.2.2.2.2.2.2.2.2.2.2.1.length then (ke (u27.1, u27.2.1, u27.2.2.1, u27.2.2.2.1, u27.2.2.2.2.1, u27.2.2.2.2.2.1, u27.2.2.2.2.2.2.1, u27.2.2.2.2.2.2.2.1, u27.2.2.2.2.2.2.2.2.1, u27.2.2.2.2.2.2.2.2.2.1, u27.2.2.2.2.2.2.2.2.2.2.2.1, u27.2.2.2.2.2.2.2.2.2.2.2.2.1, u27.2.2.2.2.2.2.2.2.2.2.2.2.2.1, (u27.2.2.2.2.2.2.2.2.2.2.2.2.2.2.1.map datF), ((splice u27.2.2.2.2.2.2.2.2.2.2.2.2.2.2.2.1 ((0 + u27.2.2.2.2.2.2.1.toNat) * 1) [(AV.v (.bool true))]).map dat0), u27.2.2.2.2.2.2.2.2.2.2.2.2.2.2.2.2)) else none) else none) | false => (ke (u27.1, u27.2.1, u27.2.2.1, u27.2.2.2.1, u27.2.2.2.2.1, u27.2.2.2.2.2.1, u27.2.2.2.2.2.2.1, u27.2.2.2.2.2.2.2.1, u27.2.2.2.2.2.2.2.2.1, u27.2.2.2.2.2.2.2.2.2.1, u27.2.2.2.2.2.2.2.2.2.2.2.1, u27.2.2.2.2.2.2.2.2.2.2.2.2.1, u27.2.2.2.2.2.2.2.2.2.2.2.2.2.1, (u27.2.2.2.2.2.2.2.2.2.2.2.2.2.2.1.map datF), (u27.2.2.2.2.2.2.2.2.2.2.2.2.2.2.2.1.map dat0), u27.2.2.2.2.2.2.2.2.2.2.2.2.2.2.2.2)))
abbrev zrD (N : Nat) (x : qL × qL × qL × Int × Nat × Int × Int × Nat × Int × Int × Bool × qL × Nat × RT7 × qA × qA × Nat × Nat) : Option ((qL × qL × qL × Int × Nat × Int × Int × Nat × Int × Int × qL × Nat × RT7 × qA × qA × Nat × Nat)) := (zf6 N).L N x
def zf5 (N : Nat) : LSpec where
 X := qL × qL × qL × Int × Nat × Int × Int × qL × Nat × qA × qA × Nat × Nat
 Y := (qL × qL × qL × Int × Int × Nat × qL × Nat × qA × qA × Nat × Nat) ⊕ (qL × qL × Int × Nat × qL × Nat × qA × qA × Nat × Nat)
 dt := .fm 166 0 (Z9 16).1.toks 36 [(11, .tok 1 1280000704), (1, .lst 25), (42, .lst 1), (2, .int .i64), (6, .ptr 6 0), (10, .ptr 10 0), (12, .vs0 39 1), (43, .int .i64), (44, .int .i64)] [(6, .cells [.tok 1 6401572864]), (10, .cells [.vs0 36 1]), (36, .tt), (39, .tt)] rfl
 od := .mk 166 0 (Z9 16).2.toks [⟨.ret, [(11, .tok 1 1280000704), (1, .lst 25), (7, .lst 1), (2, .int .i64), (6, .ptr 6 0), (8, .int .i64), (10, .ptr 10 0), (12, .vs0 39 1)], [(6, .cells [.tok 1 6401572864]), (10, .cells [.vs0 36 1]), (36, .tt), (39, .tt)], some 36⟩, ⟨.exit 0, [(11, .tok 1 1280000704), (1, .lst 25), (2, .int .i64), (6, .ptr 6 0), (10, .ptr 10 0), (12, .vs0 39 1)], [(6, .cells [.tok 1 6401572864]), (10, .cells [.vs0 36 1]), (36, .tt), (39, .tt)], some 36⟩] rfl
 b := λ u16 α kn ke => (match (decide (u16.2.2.2.2.2.2.1 < u16.2.2.2.2.2.1)) with | true => (if 0 <= u16.2.2.2.2.2.2.1 then (match u16.2.2.1[u16.2.2.2.2.2.2.1.toNat]? with | some c79 => (match c79[0]? with | some x80 => (match x80 with | .v (.int q82 n81) => (if q82 = .i64 then (if 0 <= u16.2.2.2.2.2.2.1 /\ u16.2.2.2.2.2.2.1 < (u16.2.2.2.2.2.2.2.2.1 : Int) then (match ze2 (u16.2.2.2.2.2.2.2.2.2.1.drop ((0 + u16.2.2.2.2.2.2.1.toNat) * 1)) with | some e83 => (match zlh N e83.1 with | some y84 => (match zrD N (u16.1, u16.2.1, u16.2.2.1, u16.2.2.2.1, u16.2.2.2.2.1, u16.2.2.2.2.2.2.1, n81, ((0 + u16.2.2.2.2.2.2.1.toNat) * 1), u16.2.2.2.2.2.1, u16.2.2.2.2.2.2.1, (decide (n81 >= 0)), u16.2.2.2.2.2.2.2.1, u16.2.2.2.2.2.2.2.2.1, y84, (u16.2.2.2.2.2.2.2.2.2.1.map datF), (u16.2.2.2.2.2.2.2.2.2.2.1.map dat0), u16.2.2.2.2.2.2.2.2.2.2.2) with | some y85 => (match znN N y85.2.2.2.2.2.2.2.2.2.2.2.2.1.1 with | some y86 => (match (!y86) with | true => (kn (y85.1, y85.2.1, y85.2.2.1, y85.2.2.2.1, y85.2.2.2.2.1, y85.2.2.2.2.2.2.2.2.1, (i64 (y85.2.2.2.2.2.2.2.2.2.1 + 1)), y85.2.2.2.2.2.2.2.2.2.2.1, y85.2.2.2.2.2.2.2.2.2.2.2.1, (y85.2.2.2.2.2.2.2.2.2.2.2.2.2.1.map datF), (y85.2.2.2.2.2.2.2.2.2.2.2.2.2.2.1.map dat0), y85.2.2.2.2.2.2.2.2.2.2.2.2.2.2.2)) | false => (match zrE N (y85.1, y85.2.1, y85.2.2.1, y85.2.2.2.1, y85.2.2.2.2.1, y85.2.2.2.2.2.1, y85.2.2.2.2.2.2.1, y85.2.2.2.2.2.2.2.1, y85.2.2.2.2.2.2.2.2.1, y85.2.2.2.2.2.2.2.2.2.1, (decide (y85.2.2.2.2.2.2.1 >= 0)), y85.2.2.2.2.2.2.2.2.2.2.1, y85.2.2.2.2.2.2.2.2.2.2.2.1, y85.2.2.2.2.2.2.2.2.2.2.2.2.1, (y85.2.2.2.2.2.2.2.2.2.2.2.2.2.1.map datF), (y85.2.2.2.2.2.2.2.2.2.2.2.2.2.2.1.map dat0), y85.2.2.2.2.2.2.2.2.2.2.2.2.2.2.2) with | some y87 => (match y87 with | .inl z88 => (kn (z88.1, z88.2.1, z88.2.2.1, z88.2.2.2.1, z88.2.2.2.2.1, z88.2.2.2.2.2.2.2.1, (i64 (z88.2.2.2.2.2.2.2.2.1 + 1)), z88.2.2.2.2.2.2.2.2.2.1, z88.2.2.2.2.2.2.2.2.2.2.1, (z88.2.2.2.2.2.2.2.2.2.2.2.1.map datF), (z88.2.2.2.2.2.2.2.2.2.2.2.2.1.map dat0), z88.2.2.2.2.2.2.2.2.2.2.2.2.2)) | .inr z89 => (match z89.2.2.2.2.2.2.2.2.2.2.2.1[(z89.2.2.2.2.2.2.1 + 0)]? with | some x90 => (match ZW 29 x90 with | some l91 => (match (decide ((l91.length : Int) > 100)) with | true => (ke (.inl (z89.1, z89.2.1, ([] : qL), z89.2.2.2.1, 8, z89.2.2.2.2.1, ([] : qL), z89.2.2.2.2.2.2.2.2.2.2.1, (z89.2.2.2.2.2.2.2.2.2.2.2.1.map datF), (z89.2.2.2.2.2.2.2.2.2.2.2.2.1.map dat0), z89.2.2.2.2.2.2.2.2.2.2.2.2.2))) | false => (if (z89.1.length + [[(AV.v (.int .i64 z89.2.2.2.2.2.1))]].length) * 8 <= ze then (kn ((z89.1 ++ [[(AV.v (.int .i64 z89.2.2.2.2.2.1))]]), z89.2.1, z89.2.2.1, z89.2.2.2.1, z89.2.2.2.2.1, z89.2.2.2.2.2.2.2.1, (i64 (z89.2.2.2.2.2.2.2.2.1 + 1)), z89.2.2.2.2.2.2.2.2.2.1, z89.2.2.2.2.2.2.2.2.2.2.1, (z89.2.2.2.2.2.2.2.2.2.2.2.1.map datF), (z89.2.2.2.2.2.2.2.2.2.2.2.2.1.map dat0), z89.2.2.2.2.2.2.2.2.2.2.2.2.2)) else none)) | none => none) | none => none)) | none => none)) | none => none) | none => none) | none => none) | none => none) else none) else none) | _ => none) | none => none) | none => none) else none) | false => (ke (.inr (u16.1, u16.2.1, u16.2.2.2.1, u16.2.2.2.2.1, u16.2.2.2.2.2.2.2.1, u16.2.2.2.2.2.2.2.2.1, (u16.2.2.2.2.2.2.2.2.2.1.map datF), (u16.2.2.2.2.2.2.2.2.2.2.1.map dat0), u16.2.2.2.2.2.2.2.2.2.2.2))))
abbrev zrC (N : Nat) (x : qL × qL × qL × Int × Nat × Int × Int × qL × Nat × qA × qA × Nat × Nat) : Option ((qL × qL × qL × Int × Int × Nat × qL × Nat × qA × qA × Nat × Nat) ⊕ (qL × qL × Int × Nat × qL × Nat × qA × qA × Nat × Nat)) := (zf5 N).L N x
def zvz (N : Nat) : FSpec where
 X := qL × qL × Int
 Y := qL × qL × Int
 ad := .mk [.ags [.sl 1], .lst 25, .int .i64] [] rfl
 S := ⟨[[some 1], [some 1], [none]], [], [], [], []⟩
 ret := λ y => qR (AV.tup [(AV.agg [(AV.list 1 y.1 none)]), (AV.list 1 y.2.1 none), (AV.v (.int .i64 y.2.2))])
 t := λ x α k => (match zkA N x.1 with | some y1 => (match (!y1) with | true => (k (([] : qL), ([] : qL), 1)) | false => (match zd0 N x.2.1 with | some y2 => (match (!y2) with | true => (k (([] : qL), ([] : qL), 1)) | false => (match ziX N (x.1, x.2.2) with | some y3 => (match (y3 != 0) with | true => (k (([] : qL), ([] : qL), y3)) | false => (match zhu N x.1 with | some y4 => (if 0 <= (x.2.1.length : Int) /\ (x.2.1.length : Int) <= (x.2.1.length : Int) /\ (x.2.1.length : Int).toNat * 1 <= ze then (match zzn N (x.1, x.2.1) with | some y5 => (match zrC N (([] : qL), x.2.1, y5, x.2.2, ((x.2.1.length : Int).toNat), (y5.length : Int), 0, ([] : qL), y4.1, ((y4.2.1.map (datJ y4.2.2.1 y4.2.2.2)).map datF), ((List.replicate (x.2.1.length : Int).toNat (AV.v (.bool false))).map dat0), y4.2.2) with | some y92 => (match y92 with | .inl z93 => (k (z93.2.2.2.2.2.2.1, z93.2.2.1, z93.2.2.2.2.1)) | .inr z94 => (match zrG N (z94.1, z94.2.1, z94.2.2.1, z94.2.2.2.1, (z94.2.1.length : Int), 0, z94.2.2.2.2.1, z94.2.2.2.2.2.1, (z94.2.2.2.2.2.2.2.1.map dat0), (z94.2.2.2.2.2.2.1.map dat0)) with | some y105 => (match (decide (((y105.2.2.1 : Nat) : Int) > 500)) with | true => (k (([] : qL), ([] : qL), 8)) | false => (if y105.2.2.1 * 1 <= y105.2.2.2.length then (k ((zo (y105.2.2.2.take (y105.2.2.1 * 1)) 1 y105.2.2.1), y105.1, 0)) else none)) | none => none)) | none => none) | none => none) else none) | none => none)) | none => none)) | none => none)) | none => none)
abbrev zrB (N : Nat) (x : qL × qL × Int) : Option (qL × qL × Int) := (zvz N).d x
def zdc (N : Nat) : List (Nat × LSpec) := [(16, zf5 N), (27, zf6 N), (33, zf7 N), (35, zf8 N), (46, zf9 N)]
def zag : Code := Tryz.f26.body.getD .skip
theorem ziL (N : Nat) : Zb qP Z9 N (zdc N) 46 (zb 46 zag) :=
 zC (zx qP [36, 66, 101, 156]) zf (ziJ N) (l := []) an (zf9 N)
theorem zaD (N : Nat) : Zb qP Z9 N (zdc N) 35 (zb 35 zag) :=
 Jw (zx qP [36, 66, 101, 156]) zf (ziJ N) (l := []) an (zf8 N)
theorem zdb (N : Nat) : Zb qP Z9 N (zdc N) 33 (zb 33 zag) :=
 Jw (zx qP [36, 66, 101, 156]) zf (ziJ N) (l := [(35, zb 35 zag)]) (al (zaD N) an) (zf7 N)
theorem zda (N : Nat) : Zb qP Z9 N (zdc N) 27 (zb 27 zag) :=
 Jw (zx qP [36, 66, 101, 156]) zf (ziJ N) (l := []) an (zf6 N)
theorem ziK (N : Nat) : Zb qP Z9 N (zdc N) 16 (zb 16 zag) :=
 zC (zx qP [36, 66, 101, 156]) zf (ziJ N) (l := [(27, zb 27 zag), (33, zb 33 zag), (35, zb 35 zag)]) (al (zda N) (al (zdb N) (al (zaD N) an))) (zf5 N)
def zzh (N : Nat) : Ent qP := zK (zx qP [36, 66, 101, 156]) zf (ziJ N) 26 Tryz.f26 Tryz.func26 Z9 N (zdc N) (l := [(16, zb 16 zag), (27, zb 27 zag), (33, zb 33 zag), (35, zb 35 zag), (46, zb 46 zag)]) (al (ziK N) (al (zda N) (al (zdb N) (al (zaD N) (al (ziL N) an))))) (zvz N)
end
end
section
noncomputable section
open Go.RowKit
set_option maxRecDepth 4000
set_option maxHeartbeats 4000000
def zwc : Nat -> Keep × Keep := anL []
def zzJ (N : Nat) : List (Ent qP) := []
def zwd (N : Nat) : FSpec where
 X := qL
 Y := qL
 ad := .mk [.lst 29] [] rfl
 S := ⟨[[none]], [], [some 29], [], []⟩
 ret := λ y => ⟨(AV.fn (.func 92) [] [(AV.ptr 0 0)]), [], some [(AV.list 29 y none)], [], [], [], none⟩
 t := λ x α k => (k x)
abbrev zzH (N : Nat) (x : qL) : Option (qL) := (zwd N).d x
def zzI (N : Nat) : Ent qP := zK (zc qP) zf (zzJ N) 59 Tryz.f59 Tryz.func59 zwc N [] (l := []) an (zwd N)
def zdg : Nat -> Keep × Keep := anL []
def zkH (N : Nat) : List (Ent qP) := [znO N]
def ZF (N : Nat) : FSpec where
 X := Int × RT7 × Int × qL
 Y := Bool × Int × qL
 ad := .mk [.any, .any, .any, .ptr 0 0, .any, .ptr 1 0, .any, .any, .any, .any, .any, .any, .any, .any, .any, .any, .any, .any, .any, .any, .any, .any, .any, .int .i64, .agg RK7, .any, .any, .any, .any, .any, .any, .any, .any, .any, .any, .any, .any, .any, .any, .any, .any] [.cells [.int .i64], .cells [.tok 25 6400262144]] rfl
 ash := []
 S := ⟨[], [[none], [some 2000025]], [], [6400262144], []⟩
 ret := λ y => ⟨.v (.bool y.1), [[(AV.v (.int .i64 y.2.1))], [(AV.list 25 y.2.2 (some 6400262144))]], none, [6400262144], [6400262144], [], none⟩
 t := λ x α k => (match (decide (x.2.1.2.1 <= x.2.2.1)) with | true => (if 0 <= x.2.1.1 /\ x.2.1.1 < 7 then (match ((gtab0.map AV.v).drop (x.2.1.1.toNat * 1))[0]? with | some x1 => (match x1 with | .v (.bool b2) => (match b2 with | true => (match zcX N (zm x.2.1) with | some y3 => (if (x.2.2.2.length + [(zu y3)].length) * 248 <= ze then (k (false, x.2.2.1, (x.2.2.2 ++ [(zu y3)]))) else none) | none => none) | false => (k (false, x.2.2))) | _ => none) | none => none) else none) | false => (k (true, x.2.2)))
abbrev zkG (N : Nat) (x : Int × RT7 × Int × qL) : Option (Bool × Int × qL) := (ZF N).d x
def zaE : Code := zx9 (zb 17 (Tryz.f30.body.getD .skip))
def zaF : Code := ztQ (zb 17 (Tryz.f30.body.getD .skip))
theorem zeT (N : Nat) (x : (ZF N).X) : zhE (zaa qP) (gam (zkH N)) zdg (lam N []) zaE zaF 9000 9100 2 (ZF N).S ((ZF N).args x) ((ZF N).bs x) = (ZF N).t x Ret (λ y => some ((ZF N).ret y)) := by kernel_rfl
def zeS (N : Nat) : REnt qP zaE zaF 2 := zyg (zc qP) (ZT _) zf zdg (lam N []) zaE zaF 9000 9100 2 (by kernel_rfl) (by kernel_rfl) (ZF N) (λ _ => ⟨rfl, rfl⟩) (zeT N) (λ _ _ _ h => zq1 h (λ _ _ => rfl) (λ _ _ => rfl)) (ZF N).par
def zah : Nat -> Keep × Keep := anL [(9, ⟨[3, 5, 15, 16], [], [3, 5], [(14, 1)], [((5, 0), 25)], [], [], [], false, none, []⟩, ⟨[5], [], [5], [], [((5, 0), 25)], [], [], [], false, none, []⟩), (17, ⟨[3, 5, 15, 16, 22], [], [3, 5, 22], [(14, 1)], [((5, 0), 25)], [], [], [], true, none, []⟩, ⟨[3, 5, 15, 16], [], [3, 5], [(14, 1)], [((5, 0), 25)], [], [], [], false, none, []⟩)]
def zvB (N : Nat) : List (Ent qP) := [zrK N, zzI N]
def Zv (N : Nat) : LSpec where
 X := qL × Int × Int × Int × qL × qL × Nat
 Y := (qL × Int × Int × Int × qL)
 od := .mk 41 0 (zah 17).2.toks [⟨.normal, [(14, .lst 1), (3, .ptr 3 0), (5, .ptr 5 0), (15, .int .i64), (16, .int .i64)], [(3, .cells [.int .i64]), (5, .cells [.tok 25 6401310720])], none⟩] rfl
 p := λ s => rdS 41 0 [(14, .lst 1), (3, .ptr 3 0), (5, .ptr 5 0), (15, .int .i64), (16, .int .i64), (22, .fn1 92 22)] [(3, .cells [.int .i64]), (5, .cells [.tok 25 6401310720]), (22, .cells [.lst 29])] s λ ⟨a0, _, _, a1, a2, _, _⟩ ⟨⟨a3, _⟩, ⟨a4, _⟩, ⟨a5, _⟩, _⟩ => (a0, a1, a2, a3, a4, a5, a5.length)
 st := λ u17 => mkS 41 [(14, (AV.list 1 u17.1 none)), (3, (AV.ptr 3 0)), (5, (AV.ptr 5 0)), (15, (qI u17.2.1)), (16, (qI u17.2.2.1)), (22, (AV.fn (.func 92) [] [(AV.ptr 22 0)]))] [(3, [(qI u17.2.2.2.1)]), (5, [(AV.list 25 u17.2.2.2.2.1 (some 6401310720))]), (22, [(AV.list 29 u17.2.2.2.2.2.1 none)])] (zah 17).1.toks 0
 b := λ u17 α kn ke => (if u17.2.2.2.2.2.1.length <= 1000000 then (match u17.2.2.2.2.2.2 with | 0 => (ke (u17.1, u17.2.1, u17.2.2.1, u17.2.2.2.1, u17.2.2.2.2.1)) | m17 + 1 => (match u17.2.2.2.2.2.1[m17]? with | some r17 => (match zqM RK7 r17 with | some e17 => (match zkG N ((m17 : Int), e17, u17.2.2.2.1, u17.2.2.2.2.1) with | some y5 => (match y5.1 with | true => (kn (u17.1, u17.2.1, u17.2.2.1, y5.2.1, y5.2.2, u17.2.2.2.2.2.1, m17)) | false => (ke (u17.1, u17.2.1, u17.2.2.1, y5.2))) | none => none) | none => none) | none => none)) else none)
abbrev zrO (N : Nat) (x : qL × Int × Int × Int × qL × qL × Nat) : Option ((qL × Int × Int × Int × qL)) := (Zv N).L N x
def zkE (N : Nat) : LSpec where
 X := qL × Int × Int × Int × qL
 Y := (qL)
 dt := .mk 41 0 (zah 9).1.toks [(14, .lst 1), (3, .ptr 3 0), (5, .ptr 5 0), (15, .int .i64), (16, .int .i64)] [(3, .cells [.int .i64]), (5, .cells [.tok 25 6401310720])] rfl
 od := .mk 41 0 (zah 9).2.toks [⟨.exit 0, [(5, .ptr 5 0)], [(5, .cells [.tok 25 6401310720])], none⟩] rfl
 b := λ u9 α kn ke => (match (decide (u9.2.2.1 < u9.2.1)) with | true => (if 0 <= u9.2.2.1 then (match u9.1[u9.2.2.1.toNat]? with | some c7 => (match ze2 c7 with | some e8 => (match zzH N e8.1 with | some y9 => (match zrO N (u9.1, u9.2.1, u9.2.2.1, u9.2.2.2.1, u9.2.2.2.2, y9, y9.length) with | some y10 => (kn (y10.1, y10.2.1, (i64 (y10.2.2.1 + 1)), y10.2.2.2)) | none => none) | none => none) | none => none) | none => none) else none) | false => (ke u9.2.2.2.2))
abbrev zvA (N : Nat) (x : qL × Int × Int × Int × qL) : Option ((qL)) := (zkE N).L N x
def zvC (N : Nat) : FSpec where
 X := qL × Int
 Y := qL
 ad := .mk [.ags [.sl 1], .int .i64] [] rfl
 S := ⟨[[some 2000025]], [], [], [], []⟩
 ret := λ y => ⟨(AV.list 25 y (some 2560000000)), [], none, [], [2560000000], [], none⟩
 t := λ x α k => (match zkA N x.1 with | some y1 => (match (!y1) with | true => (k ([] : qL)) | false => (match zvA N (x.1, (x.1.length : Int), 0, x.2, ([] : qL)) with | some y11 => (k y11) | none => none)) | none => none)
abbrev zrN (N : Nat) (x : qL × Int) : Option (qL) := (zvC N).d x
def zhj (N : Nat) : List (Nat × LSpec) := [(9, zkE N), (17, Zv N)]
def ziO : Code := Tryz.f30.body.getD .skip
theorem ziN (N : Nat) (u17 : (Zv N).X) (α : Type) (kn : Nat -> AS -> Option α) (ke : Out -> Option α) : JN (zeS N).F zah 17 fBk RK7 22 23 24 [3, 5] u17.2.2.2.2.2.2 ((Zv N).st u17) kn ke = (Zv N).b u17 α (λ x => kn x.2.2.2.2.2.2 ((Zv N).st x)) (λ y => (Zv N).sp y α ke) := by kernel_rfl
theorem zny (N : Nat) (u17 : (Zv N).X) : ((Zv N).st u17).at 22 = .fn (.func fBk) [] [.ptr 22 0] := by kernel_rfl
theorem znz (N : Nat) (u17 : (Zv N).X) : ((Zv N).st u17).cx 22 = some [.list 29 u17.2.2.2.2.2.1 none] := by kernel_rfl
theorem zdf (N : Nat) : Zb qP zah N (zhj N) 17 (zb 17 ziO) :=
 ztT zah N (zhj N) 17 ziO (by kernel_rfl) (by decide) (zeS N) (Zv N) (λ x => x.2.2.2.2.2.2) rfl (λ s x hc h => by dsimp only [Zv] at h; exact zfH hc h (λ _ _ => rfl) rfl rfl rfl) 22 (λ u17 => u17.2.2.2.2.2.1) (zny N) (znz N) (λ s x h => by dsimp only [Zv] at h; obtain ⟨a, b, rfl⟩ := zyf h; rfl) (λ x b h => zmG rfl h) (λ y b h => zmG rfl h) (ziN N) (Zv N).par
theorem zkF (N : Nat) : Zb qP zah N (zhj N) 9 (zb 9 ziO) :=
 zC (zc qP) zf (zvB N) (l := [(17, zb 17 ziO)]) (al (zdf N) an) (zkE N)
def zzj (N : Nat) : Ent qP := zK (zc qP) zf (zvB N) 30 Tryz.f30 Tryz.func30 zah N (zhj N) (l := [(9, zb 9 ziO), (17, zb 17 ziO)]) (al (zkF N) (al (zdf N) an)) (zvC N)
end
end
section
noncomputable section
open Go.RowKit
set_option maxRecDepth 4000
set_option maxHeartbeats 4000000
def zvO : Nat -> Keep × Keep := anL []
def zzq (N : Nat) : List (Ent qP) := []
def zrT (N : Nat) : FSpec where
 X := Int × Int
 Y := Int
 ad := .mk [.int .i64, .int .i64] [] rfl
 ret := λ y => qR (AV.v (.int .i64 y))
 t := λ x α k => (match (decide (x.2 < 1)) with | true => (k 0) | false => (if x.2 = 0 then none else (match (decide ((x.1.tmod x.2) < 0)) with | true => (k (i64 ((x.1.tmod x.2) + x.2))) | false => (k (x.1.tmod x.2)))))
abbrev znD (N : Nat) (x : Int × Int) : Option (Int) := (zrT N).d x
def zvP (N : Nat) : Ent qP := zK (zc qP) zf (zzq N) 42 Tryz.f42 Tryz.func42 zvO N [] (l := []) an (zrT N)
def zvU : Nat -> Keep × Keep := anL []
def zzv (N : Nat) : List (Ent qP) := [zvP N]
def zvV (N : Nat) : FSpec where
 X := Int
 Y := RT2
 ad := .mk [.int .i64] [] rfl
 S := ⟨[[none, none, none, none]], [], [], [], []⟩
 ret := λ y => qR (AV.agg (Ren2 y))
 t := λ x α k => (match znD N (x, 6) with | some y1 => (if 0 <= y1 then (match [[(AV.v (.string (⟨#[83, 49]⟩ : ByteArray)))], [(AV.v (.string (⟨#[83, 50]⟩ : ByteArray)))], [(AV.v (.string (⟨#[83, 51]⟩ : ByteArray)))], [(AV.v (.string (⟨#[83, 52]⟩ : ByteArray)))], [(AV.v (.string (⟨#[83, 53]⟩ : ByteArray)))], [(AV.v (.string (⟨#[83, 54]⟩ : ByteArray)))]][y1.toNat]? with | some c2 => (match c2[0]? with | some x3 => (match x3 with | .v (.string s4) => (k ((⟨#[65, 66]⟩ : ByteArray), s4, (⟨#[48, 48]⟩ : ByteArray), (⟨#[66, 72, 90]⟩ : ByteArray), ())) | _ => none) | none => none) | none => none) else none) | none => none)
abbrev znE (N : Nat) (x : Int) : Option (RT2) := (zvV N).d x
def zrW (N : Nat) : Ent qP := zK (zc qP) zf (zzv N) 45 Tryz.f45 Tryz.func45 zvU N [] (l := []) an (zvV N)
def zvw : Nat -> Keep × Keep := anL []
def zzg (N : Nat) : List (Ent qP) := [zrW N]
def zvy (N : Nat) : FSpec where
 X := Unit
 Y := RT0
 ad := .mk [] [] rfl
 S := ⟨[[none, none, none, none, none, none, none, none, none, some 9, none, none, none, none, none, none, none, none, none, none, none, none, none, none, none]], [], [], [], []⟩
 ret := λ y => qR (AV.agg (zu y))
 t := λ x α k => (match znE N 0 with | some y1 => (k (y1.1, y1.2.1, y1.2.2.1, y1.2.2.2.1, 1000, 0, 0, 0, 0, [(zj (y1.1, y1.2.1, y1.2.2.1, y1.2.2.2.1, 1000, 0, 0, 0, 0, ()))], 0, 0, 0, 0, 0, 0, 0, 0, 0, 0, 0, 0, 0, 0, 0, ())) | none => none)
abbrev znx (N : Nat) (x : Unit) : Option (RT0) := (zvy N).d x
def zvx (N : Nat) : Ent qP := zK (zc qP) zf (zzg N) 25 Tryz.f25 Tryz.func25 zvw N [] (l := []) an (zvy N)
def zvb : Nat -> Keep × Keep := anL []
def zy4 (N : Nat) : List (Ent qP) := [znG N]
def zvd (N : Nat) : FSpec where
 X := qL × Int × ByteArray × RT0 × Int
 Y := qL × Int
 ad := .mk [.ags [.sl 1], .int .i64, .str, .agg RK0, .int .i64] [] rfl
 S := ⟨[[some 1], [none]], [], [], [], []⟩
 ret := λ y => qR (AV.tup [(AV.agg [(AV.list 1 y.1 none)]), (AV.v (.int .i64 y.2))])
 t := λ x α k => (match jW N (x.1, x.2.1, (3, x.2.2.2.2, x.2.2.1, 0, x.2.2.2.1.1, x.2.2.2.1.2.1, x.2.2.2.1.2.2.1, x.2.2.2.1.2.2.2.1, x.2.2.2.1.2.2.2.2.1, x.2.2.2.1.2.2.2.2.2.1, x.2.2.2.1.2.2.2.2.2.2.1, x.2.2.2.1.2.2.2.2.2.2.2.1, x.2.2.2.1.2.2.2.2.2.2.2.2.1, x.2.2.2.1.2.2.2.2.2.2.2.2.2.1, x.2.2.2.1.2.2.2.2.2.2.2.2.2.2.1, x.2.2.2.1.2.2.2.2.2.2.2.2.2.2.2.1, x.2.2.2.1.2.2.2.2.2.2.2.2.2.2.2.2.1, x.2.2.2.1.2.2.2.2.2.2.2.2.2.2.2.2.2.1, x.2.2.2.1.2.2.2.2.2.2.2.2.2.2.2.2.2.2.1, x.2.2.2.1.2.2.2.2.2.2.2.2.2.2.2.2.2.2.2.1, x.2.2.2.1.2.2.2.2.2.2.2.2.2.2.2.2.2.2.2.2.1, x.2.2.2.1.2.2.2.2.2.2.2.2.2.2.2.2.2.2.2.2.2.1, x.2.2.2.1.2.2.2.2.2.2.2.2.2.2.2.2.2.2.2.2.2.2.1, x.2.2.2.1.2.2.2.2.2.2.2.2.2.2.2.2.2.2.2.2.2.2.2.1, x.2.2.2.1.2.2.2.2.2.2.2.2.2.2.2.2.2.2.2.2.2.2.2.2.1, x.2.2.2.1.2.2.2.2.2.2.2.2.2.2.2.2.2.2.2.2.2.2.2.2.2.1, x.2.2.2.1.2.2.2.2.2.2.2.2.2.2.2.2.2.2.2.2.2.2.2.2.2.2.1, x.2.2.2.1.2.2.2.2.2.2.2.2.2.2.2.2.2.2.2.2.2.2.2.2.2.2.2.1, x.2.2.2.1.2.2.2.2.2.2.2.2.2.2.2.2.2.2.2.2.2.2.2.2.2.2.2.2.1, ())) with | some y1 => (k y1) | none => none)
abbrev znw (N : Nat) (x : qL × Int × ByteArray × RT0 × Int) : Option (qL × Int) := (zvd N).d x
def zvc (N : Nat) : Ent qP := zK (zc qP) zf (zy4 N) 16 Tryz.f16 Tryz.func16 zvb N [] (l := []) an (zvd N)
def zhl : Nat -> Keep × Keep := anL [(8, ⟨[12, 13], [], [], [(0, 1), (1, 1)], [], [], [], [], false, none, []⟩, qK [4] [] [])]
def zvJ (N : Nat) : List (Ent qP) := []
def zkK (N : Nat) : LSpec where
 X := qL × qL × Int × Int
 Y := (Bool) ⊕ (Unit)
 dt := .mk 26 0 (zhl 8).1.toks [(0, .lst 1), (1, .lst 1), (12, .int .i64), (13, .int .i64)] [] rfl
 od := .mk 26 0 (zhl 8).2.toks [⟨.ret, [(4, .bool)], [], none⟩, ⟨.exit 0, [], [], none⟩] rfl
 b := λ u8 α kn ke => (match (decide (u8.2.2.2 < u8.2.2.1)) with | true => (if 0 <= u8.2.2.2 then (match u8.1[u8.2.2.2.toNat]? with | some c1 => (match c1[0]? with | some x2 => (match x2 with | .v (.int q4 n3) => (if q4 = .i64 then (if 0 <= u8.2.2.2 then (match u8.2.1[u8.2.2.2.toNat]? with | some c5 => (match c5[0]? with | some x6 => (match x6 with | .v (.int q8 n7) => (if q8 = .i64 then (match (n3 != n7) with | true => (ke (.inl false)) | false => (kn (u8.1, u8.2.1, u8.2.2.1, (i64 (u8.2.2.2 + 1))))) else none) | _ => none) | none => none) | none => none) else none) else none) | _ => none) | none => none) | none => none) else none) | false => (ke (.inr ())))
abbrev zvI (N : Nat) (x : qL × qL × Int × Int) : Option ((Bool) ⊕ (Unit)) := (zkK N).L N x
def zvK (N : Nat) : FSpec where
 X := qL × qL
 Y := Bool
 ad := .mk [.lst 1, .lst 1] [] rfl
 ret := λ y => qR (AV.v (.bool y))
 t := λ x α k => (match ((x.1.length : Int) != (x.2.length : Int)) with | true => (k false) | false => (match zvI N (x.1, x.2, (x.1.length : Int), 0) with | some y9 => (match y9 with | .inl z10 => (k z10) | .inr z11 => (k true)) | none => none))
abbrev zvH (N : Nat) (x : qL × qL) : Option (Bool) := (zvK N).d x
def zp6 (N : Nat) : List (Nat × LSpec) := [(8, zkK N)]
def zvG : Code := Tryz.f35.body.getD .skip
theorem zkL (N : Nat) : Zb qP zhl N (zp6 N) 8 (zb 8 zvG) :=
 zC (zc qP) zf (zvJ N) (l := []) an (zkK N)
def zzk (N : Nat) : Ent qP := zK (zc qP) zf (zvJ N) 35 Tryz.f35 Tryz.func35 zhl N (zp6 N) (l := [(8, zb 8 zvG)]) (al (zkL N) an) (zvK N)
def zAg : Nat -> Keep × Keep := anL []
def F8_g (N : Nat) : List (Ent qP) := [zvx N, zzh N, zvc N, zzk N, zzj N]
def zBu (N : Nat) : FSpec where
 X := Unit
 Y := Bool
 ad := .mk [] [] rfl
 ret := λ y => qR (AV.v (.bool y))
 t := λ x α k => (match znx N () with | some y1 => (match zrB N (([] : qL), [(zu y1)], 5) with | some y2 => (match zrB N (y2.1, ([] : qL), 6) with | some y3 => (match znx N () with | some y4 => (match znw N (y2.1, 0, (⟨#[97, 110, 110]⟩ : ByteArray), y4, 6) with | some y5 => (match zrB N (y5.1, ([] : qL), 7) with | some y6 => (match (y2.2.2 == 0) with | true => (match zvH N (y2.2.1, [[(AV.v (.int .i64 0))]]) with | some y7 => (match y7 with | true => (match (y3.2.2 == 0) with | true => (match zvH N (y3.2.1, [[(AV.v (.int .i64 0))]]) with | some y8 => (match y8 with | true => (match zrN N (y3.1, 6) with | some y9 => (match ((y9.length : Int) == 0) with | true => (match zrN N (y3.1, 5) with | some y10 => (match ((y10.length : Int) == 1) with | true => (match (y5.2 == 0) with | true => (match (y6.2.2 == 0) with | true => (match ((y6.2.1.length : Int) == 0) with | true => (match zrN N (y6.1, 7) with | some y11 => (k ((y11.length : Int) == 1)) | none => none) | false => (k false)) | false => (k false)) | false => (k false)) | false => (k false)) | none => none) | false => (k false)) | none => none) | false => (k false)) | none => none) | false => (k false)) | false => (k false)) | none => none) | false => (k false)) | none => none) | none => none) | none => none) | none => none) | none => none) | none => none)
abbrev zwS (N : Nat) (x : Unit) : Option (Bool) := (zBu N).d x
def F8_e (N : Nat) : Ent qP := zK (zc qP) zf (F8_g N) 8 Tryz.f8 Tryz.func8 zAg N [] (l := []) an (zBu N)
end
end
section
noncomputable section
open Go.RowKit
set_option maxRecDepth 4000
set_option maxHeartbeats 4000000
def zve : Nat -> Keep × Keep := anL []
def zy5 (N : Nat) : List (Ent qP) := [znI N]
def zvg (N : Nat) : FSpec where
 X := qL × Int × ByteArray × RT0 × Int
 Y := qL × Int
 ad := .mk [.ags [.sl 1], .int .i64, .str, .agg RK0, .int .i64] [] rfl
 S := ⟨[[some 1], [none]], [], [], [], []⟩
 ret := λ y => qR (AV.tup [(AV.agg [(AV.list 1 y.1 none)]), (AV.v (.int .i64 y.2))])
 t := λ x α k => (match Z4 N (x.1, x.2.1, (3, x.2.2.2.2, x.2.2.1, 0, x.2.2.2.1.1, x.2.2.2.1.2.1, x.2.2.2.1.2.2.1, x.2.2.2.1.2.2.2.1, x.2.2.2.1.2.2.2.2.1, x.2.2.2.1.2.2.2.2.2.1, x.2.2.2.1.2.2.2.2.2.2.1, x.2.2.2.1.2.2.2.2.2.2.2.1, x.2.2.2.1.2.2.2.2.2.2.2.2.1, x.2.2.2.1.2.2.2.2.2.2.2.2.2.1, x.2.2.2.1.2.2.2.2.2.2.2.2.2.2.1, x.2.2.2.1.2.2.2.2.2.2.2.2.2.2.2.1, x.2.2.2.1.2.2.2.2.2.2.2.2.2.2.2.2.1, x.2.2.2.1.2.2.2.2.2.2.2.2.2.2.2.2.2.1, x.2.2.2.1.2.2.2.2.2.2.2.2.2.2.2.2.2.2.1, x.2.2.2.1.2.2.2.2.2.2.2.2.2.2.2.2.2.2.2.1, x.2.2.2.1.2.2.2.2.2.2.2.2.2.2.2.2.2.2.2.2.1, x.2.2.2.1.2.2.2.2.2.2.2.2.2.2.2.2.2.2.2.2.2.1, x.2.2.2.1.2.2.2.2.2.2.2.2.2.2.2.2.2.2.2.2.2.2.1, x.2.2.2.1.2.2.2.2.2.2.2.2.2.2.2.2.2.2.2.2.2.2.2.1, x.2.2.2.1.2.2.2.2.2.2.2.2.2.2.2.2.2.2.2.2.2.2.2.2.1, x.2.2.2.1.2.2.2.2.2.2.2.2.2.2.2.2.2.2.2.2.2.2.2.2.2.1, x.2.2.2.1.2.2.2.2.2.2.2.2.2.2.2.2.2.2.2.2.2.2.2.2.2.2.1, x.2.2.2.1.2.2.2.2.2.2.2.2.2.2.2.2.2.2.2.2.2.2.2.2.2.2.2.1, x.2.2.2.1.2.2.2.2.2.2.2.2.2.2.2.2.2.2.2.2.2.2.2.2.2.2.2.2.1, ())) with | some y1 => (k y1) | none => none)
abbrev zko (N : Nat) (x : qL × Int × ByteArray × RT0 × Int) : Option (qL × Int) := (zvg N).d x
def zvf (N : Nat) : Ent qP := zK (zc qP) zf (zy5 N) 17 Tryz.f17 Tryz.func17 zve N [] (l := []) an (zvg N)
def zvj : Nat -> Keep × Keep := anL []
def zy8 (N : Nat) : List (Ent qP) := [znI N]
def zvl (N : Nat) : FSpec where
 X := qL × Int × ByteArray × Int
 Y := qL × Int
 ad := .mk [.ags [.sl 1], .int .i64, .str, .int .i64] [] rfl
 S := ⟨[[some 1], [none]], [], [], [], []⟩
 ret := λ y => qR (AV.tup [(AV.agg [(AV.list 1 y.1 none)]), (AV.v (.int .i64 y.2))])
 t := λ x α k => (match Z4 N (x.1, x.2.1, (4, x.2.2.2, x.2.2.1, 0, (⟨#[]⟩ : ByteArray), (⟨#[]⟩ : ByteArray), (⟨#[]⟩ : ByteArray), (⟨#[]⟩ : ByteArray), 0, 0, 0, 0, 0, ([] : qL), 0, 0, 0, 0, 0, 0, 0, 0, 0, 0, 0, 0, 0, 0, 0, ())) with | some y1 => (k y1) | none => none)
abbrev zkp (N : Nat) (x : qL × Int × ByteArray × Int) : Option (qL × Int) := (zvl N).d x
def zvk (N : Nat) : Ent qP := zK (zc qP) zf (zy8 N) 19 Tryz.f19 Tryz.func19 zvj N [] (l := []) an (zvl N)
def zvo : Nat -> Keep × Keep := anL []
def zzb (N : Nat) : List (Ent qP) := [znI N]
def zvq (N : Nat) : FSpec where
 X := qL × Int × Int × ByteArray × Int
 Y := qL × Int
 ad := .mk [.ags [.sl 1], .int .i64, .int .i64, .str, .int .i64] [] rfl
 S := ⟨[[some 1], [none]], [], [], [], []⟩
 ret := λ y => qR (AV.tup [(AV.agg [(AV.list 1 y.1 none)]), (AV.v (.int .i64 y.2))])
 t := λ x α k => (match Z4 N (x.1, x.2.1, (5, x.2.2.2.2, x.2.2.2.1, x.2.2.1, (⟨#[]⟩ : ByteArray), (⟨#[]⟩ : ByteArray), (⟨#[]⟩ : ByteArray), (⟨#[]⟩ : ByteArray), 0, 0, 0, 0, 0, ([] : qL), 0, 0, 0, 0, 0, 0, 0, 0, 0, 0, 0, 0, 0, 0, 0, ())) with | some y1 => (k y1) | none => none)
abbrev zkq (N : Nat) (x : qL × Int × Int × ByteArray × Int) : Option (qL × Int) := (zvq N).d x
def zvp (N : Nat) : Ent qP := zK (zc qP) zf (zzb N) 21 Tryz.f21 Tryz.func21 zvo N [] (l := []) an (zvq N)
def zvt : Nat -> Keep × Keep := anL []
def zze (N : Nat) : List (Ent qP) := [znI N]
def zvv (N : Nat) : FSpec where
 X := qL × Int × ByteArray × Int
 Y := qL × Int
 ad := .mk [.ags [.sl 1], .int .i64, .str, .int .i64] [] rfl
 S := ⟨[[some 1], [none]], [], [], [], []⟩
 ret := λ y => qR (AV.tup [(AV.agg [(AV.list 1 y.1 none)]), (AV.v (.int .i64 y.2))])
 t := λ x α k => (match Z4 N (x.1, x.2.1, (6, x.2.2.2, x.2.2.1, 0, (⟨#[]⟩ : ByteArray), (⟨#[]⟩ : ByteArray), (⟨#[]⟩ : ByteArray), (⟨#[]⟩ : ByteArray), 0, 0, 0, 0, 0, ([] : qL), 0, 0, 0, 0, 0, 0, 0, 0, 0, 0, 0, 0, 0, 0, 0, ())) with | some y1 => (k y1) | none => none)
abbrev zkr (N : Nat) (x : qL × Int × ByteArray × Int) : Option (qL × Int) := (zvv N).d x
def zvu (N : Nat) : Ent qP := zK (zc qP) zf (zze N) 23 Tryz.f23 Tryz.func23 zvt N [] (l := []) an (zvv N)
def zbL : Nat -> Keep × Keep := anL [(8, qK [2, 3, 5] [] [2, 3], qK [4] [] []), (21, ⟨[2, 3, 5, 8], [], [2, 3], [(6, 29), (7, 29)], [], [], [], [], false, none, []⟩, qK [2, 3, 4, 5] [] [2, 3])]
def zrz (N : Nat) : List (Ent qP) := [zr0 N]
def Z2 (N : Nat) : LSpec where
 X := qL × qL × Int × Int × qL × qL
 Y := (Bool × Int × qL × qL) ⊕ (Int × qL × qL)
 dt := .mk 110 0 (zbL 21).1.toks [(6, .lst 29), (7, .lst 29), (2, .ptr 2 0), (3, .ptr 3 0), (5, .int .i64), (8, .int .i64)] [(2, .cells [.lst 1]), (3, .cells [.lst 1])] rfl
 od := .mk 110 0 (zbL 21).2.toks [⟨.ret, [(2, .ptr 2 0), (3, .ptr 3 0), (4, .bool), (5, .int .i64)], [(2, .cells [.lst 1]), (3, .cells [.lst 1])], none⟩, ⟨.exit 2, [(2, .ptr 2 0), (3, .ptr 3 0), (5, .int .i64)], [(2, .cells [.lst 1]), (3, .cells [.lst 1])], none⟩] rfl
 b := λ u21 α kn ke => (match (decide (u21.2.2.2.1 < (u21.1.length : Int))) with | true => (if 0 <= u21.2.2.2.1 then (match u21.1[u21.2.2.2.1.toNat]? with | some c42 => (match (c42.drop 0)[0]? with | some x43 => (match x43 with | .v (.int q45 n44) => (if q45 = .i64 then (if 0 <= u21.2.2.2.1 then (match u21.2.1[u21.2.2.2.1.toNat]? with | some c46 => (match (c46.drop 0)[0]? with | some x47 => (match x47 with | .v (.int q49 n48) => (if q49 = .i64 then (match (n44 != n48) with | true => (ke (.inl (false, u21.2.2.1, u21.2.2.2.2))) | false => (if 0 <= u21.2.2.2.1 then (match u21.1[u21.2.2.2.1.toNat]? with | some c50 => (match (c50.drop 1)[0]? with | some x51 => (match x51 with | .v (.int q53 n52) => (if q53 = .i64 then (if 0 <= u21.2.2.2.1 then (match u21.2.1[u21.2.2.2.1.toNat]? with | some c54 => (match (c54.drop 1)[0]? with | some x55 => (match x55 with | .v (.int q57 n56) => (if q57 = .i64 then (match (n52 != n56) with | true => (ke (.inl (false, u21.2.2.1, u21.2.2.2.2))) | false => (if 0 <= u21.2.2.2.1 then (match u21.1[u21.2.2.2.1.toNat]? with | some c58 => (match (c58.drop 2)[0]? with | some x59 => (match x59 with | .v (.string s60) => (if 0 <= u21.2.2.2.1 then (match u21.2.1[u21.2.2.2.1.toNat]? with | some c61 => (match (c61.drop 2)[0]? with | some x62 => (match x62 with | .v (.string s63) => (match (!(s60.toList == s63.toList)) with | true => (ke (.inl (false, u21.2.2.1, u21.2.2.2.2))) | false => (if 0 <= u21.2.2.2.1 then (match u21.1[u21.2.2.2.1.toNat]? with | some c64 => (match (c64.drop 3)[0]? with | some x65 => (match x65 with | .v (.int q67 n66) => (if q67 = .i64 then (if 0 <= u21.2.2.2.1 then (match u21.2.1[u21.2.2.2.1.toNat]? with | some c68 => (match (c68.drop 3)[0]? with | some x69 => (match x69 with | .v (.int q71 n70) => (if q71 = .i64 then (match (n66 != n70) with | true => (ke (.inl (false, u21.2.2.1, u21.2.2.2.2))) | false => (if 0 <= u21.2.2.2.1 then (match u21.1[u21.2.2.2.1.toNat]? with | some c72 => (match zfZ (c72.drop 4) with | some e73 => (if 0 <= u21.2.2.2.1 then (match u21.2.1[u21.2.2.2.1.toNat]? with | some c74 => (match zfZ (c74.drop 4) with | some e75 => (match zaH N (e73, e75) with | some y76 => (match (!y76) with | true => (ke (.inl (false, u21.2.2.1, u21.2.2.2.2))) | false => (kn (u21.1, u21.2.1, u21.2.2.1, (i64 (u21.2.2.2.1 + 1)), u21.2.2.2.2))) | none => none) | none => none) | none => none) else none) | none => none) | none => none) else none)) else none) | _ => none) | none => none) | none => none) else none) else none) | _ => none) | none => none) | none => none) else none)) | _ => none) | none => none) | none => none) else none) | _ => none) | none => none) | none => none) else none)) else none) | _ => none) | none => none) | none => none) else none) else none) | _ => none) | none => none) | none => none) else none)) else none) | _ => none) | none => none) | none => none) else none) else none) | _ => none) | none => none) | none => none) else none) | false => (ke (.inr (u21.2.2.1, u21.2.2.2.2))))
abbrev zkt (N : Nat) (x : qL × qL × Int × Int × qL × qL) : Option ((Bool × Int × qL × qL) ⊕ (Int × qL × qL)) := (Z2 N).L N x
def j5 (N : Nat) : LSpec where
 X := Int × qL × qL
 Y := (Bool) ⊕ (Unit)
 dt := .mk 110 0 (zbL 8).1.toks [(2, .ptr 2 0), (3, .ptr 3 0), (5, .int .i64)] [(2, .cells [.lst 1]), (3, .cells [.lst 1])] rfl
 od := .mk 110 0 (zbL 8).2.toks [⟨.ret, [(4, .bool)], [], none⟩, ⟨.exit 0, [], [], none⟩] rfl
 b := λ u8 α kn ke => (match (decide (u8.1 < (u8.2.1.length : Int))) with | true => (if 0 <= u8.1 then (match u8.2.1[u8.1.toNat]? with | some c1 => (match (c1.drop 0)[0]? with | some x2 => (match ZW 29 x2 with | some l3 => (if 0 <= u8.1 then (match u8.2.2[u8.1.toNat]? with | some c4 => (match (c4.drop 0)[0]? with | some x5 => (match ZW 29 x5 with | some l6 => (match ((l3.length : Int) != (l6.length : Int)) with | true => (ke (.inl false)) | false => (match zkt N (l3, l6, u8.1, 0, u8.2) with | some y77 => (match y77 with | .inl z78 => (ke (.inl z78.1)) | .inr z79 => (kn ((i64 (z79.1 + 1)), z79.2))) | none => none)) | none => none) | none => none) | none => none) else none) | none => none) | none => none) | none => none) else none) | false => (ke (.inr ())))
abbrev zp2 (N : Nat) (x : Int × qL × qL) : Option ((Bool) ⊕ (Unit)) := (j5 N).L N x
def zrA (N : Nat) : FSpec where
 X := qL × qL
 Y := Bool
 ad := .mk [.ags [.sl 1], .ags [.sl 1]] [] rfl
 ret := λ y => qR (AV.v (.bool y))
 t := λ x α k => (match ((x.1.length : Int) != (x.2.length : Int)) with | true => (k false) | false => (match zp2 N (0, x) with | some y80 => (match y80 with | .inl z81 => (k z81) | .inr z82 => (k true)) | none => none))
abbrev zbM (N : Nat) (x : qL × qL) : Option (Bool) := (zrA N).d x
def zkv (N : Nat) : List (Nat × LSpec) := [(8, j5 N), (21, Z2 N)]
def zks : Code := Tryz.f24.body.getD .skip
theorem zc9 (N : Nat) : Zb qP zbL N (zkv N) 21 (zb 21 zks) :=
 zC (zc qP) zf (zrz N) (l := []) an (Z2 N)
theorem zku (N : Nat) : Zb qP zbL N (zkv N) 8 (zb 8 zks) :=
 zC (zc qP) zf (zrz N) (l := [(21, zb 21 zks)]) (al (zc9 N) an) (j5 N)
def zzf (N : Nat) : Ent qP := zK (zc qP) zf (zrz N) 24 Tryz.f24 Tryz.func24 zbL N (zkv N) (l := [(8, zb 8 zks), (21, zb 21 zks)]) (al (zku N) (al (zc9 N) an)) (zrA N)
def zvh : Nat -> Keep × Keep := anL []
def zy7 (N : Nat) : List (Ent qP) := [znG N]
def zvi (N : Nat) : FSpec where
 X := qL × Int × ByteArray × Int
 Y := qL × Int
 ad := .mk [.ags [.sl 1], .int .i64, .str, .int .i64] [] rfl
 S := ⟨[[some 1], [none]], [], [], [], []⟩
 ret := λ y => qR (AV.tup [(AV.agg [(AV.list 1 y.1 none)]), (AV.v (.int .i64 y.2))])
 t := λ x α k => (match jW N (x.1, x.2.1, (4, x.2.2.2, x.2.2.1, 0, (⟨#[]⟩ : ByteArray), (⟨#[]⟩ : ByteArray), (⟨#[]⟩ : ByteArray), (⟨#[]⟩ : ByteArray), 0, 0, 0, 0, 0, ([] : qL), 0, 0, 0, 0, 0, 0, 0, 0, 0, 0, 0, 0, 0, 0, 0, ())) with | some y1 => (k y1) | none => none)
abbrev zrw (N : Nat) (x : qL × Int × ByteArray × Int) : Option (qL × Int) := (zvi N).d x
def zy6 (N : Nat) : Ent qP := zK (zc qP) zf (zy7 N) 18 Tryz.f18 Tryz.func18 zvh N [] (l := []) an (zvi N)
def zvm : Nat -> Keep × Keep := anL []
def zza (N : Nat) : List (Ent qP) := [znG N]
def zvn (N : Nat) : FSpec where
 X := qL × Int × Int × ByteArray × Int
 Y := qL × Int
 ad := .mk [.ags [.sl 1], .int .i64, .int .i64, .str, .int .i64] [] rfl
 S := ⟨[[some 1], [none]], [], [], [], []⟩
 ret := λ y => qR (AV.tup [(AV.agg [(AV.list 1 y.1 none)]), (AV.v (.int .i64 y.2))])
 t := λ x α k => (match jW N (x.1, x.2.1, (5, x.2.2.2.2, x.2.2.2.1, x.2.2.1, (⟨#[]⟩ : ByteArray), (⟨#[]⟩ : ByteArray), (⟨#[]⟩ : ByteArray), (⟨#[]⟩ : ByteArray), 0, 0, 0, 0, 0, ([] : qL), 0, 0, 0, 0, 0, 0, 0, 0, 0, 0, 0, 0, 0, 0, 0, ())) with | some y1 => (k y1) | none => none)
abbrev zrx (N : Nat) (x : qL × Int × Int × ByteArray × Int) : Option (qL × Int) := (zvn N).d x
def zy9 (N : Nat) : Ent qP := zK (zc qP) zf (zza N) 20 Tryz.f20 Tryz.func20 zvm N [] (l := []) an (zvn N)
def zvr : Nat -> Keep × Keep := anL []
def zzd (N : Nat) : List (Ent qP) := [znG N]
def zvs (N : Nat) : FSpec where
 X := qL × Int × ByteArray × Int
 Y := qL × Int
 ad := .mk [.ags [.sl 1], .int .i64, .str, .int .i64] [] rfl
 S := ⟨[[some 1], [none]], [], [], [], []⟩
 ret := λ y => qR (AV.tup [(AV.agg [(AV.list 1 y.1 none)]), (AV.v (.int .i64 y.2))])
 t := λ x α k => (match jW N (x.1, x.2.1, (6, x.2.2.2, x.2.2.1, 0, (⟨#[]⟩ : ByteArray), (⟨#[]⟩ : ByteArray), (⟨#[]⟩ : ByteArray), (⟨#[]⟩ : ByteArray), 0, 0, 0, 0, 0, ([] : qL), 0, 0, 0, 0, 0, 0, 0, 0, 0, 0, 0, 0, 0, 0, 0, ())) with | some y1 => (k y1) | none => none)
abbrev zry (N : Nat) (x : qL × Int × ByteArray × Int) : Option (qL × Int) := (zvs N).d x
def zzc (N : Nat) : Ent qP := zK (zc qP) zf (zzd N) 22 Tryz.f22 Tryz.func22 zvr N [] (l := []) an (zvs N)
end
end
section
noncomputable section
open Go.RowKit
set_option maxRecDepth 4000
set_option maxHeartbeats 4000000
def zz3 : Nat -> Keep × Keep := anL []
def F7_g (N : Nat) : List (Ent qP) := []
def zz5 (N : Nat) : FSpec where
 X := RT0
 Y := Bool
 ad := .mk [.agg RK0] [] rfl
 ret := λ y => qR (AV.v (.bool y))
 t := λ x α k => (match (decide ((x.2.2.2.2.2.2.2.2.2.1.length : Int) <= 20)) with | true => (match (decide (x.2.2.2.2.2.2.2.2.2.2.2.2.2.1 > (-1152921504606846976))) with | true => (k (decide (x.2.2.2.2.2.2.2.2.2.2.2.2.2.1 < 1152921504606846976))) | false => (k false)) | false => (k false))
abbrev zz4 (N : Nat) (x : RT0) : Option (Bool) := (zz5 N).d x
def F7_e (N : Nat) : Ent qP := zK (zc qP) zf (F7_g N) 7 Tryz.f7 Tryz.func7 zz3 N [] (l := []) an (zz5 N)
def zAA : Nat -> Keep × Keep := anL []
def F9_g (N : Nat) : List (Ent qP) := []
def zAC (N : Nat) : FSpec where
 X := qL
 Y := qL × Int
 ad := .mk [.lst 1] [] rfl
 S := ⟨[[none]], [], [some 1, none], [], []⟩
 ret := λ y => ⟨(AV.ptr 0 0), [], some [(AV.list 1 y.1 none), (AV.v (.int .i64 y.2))], [], [], [], none⟩
 t := λ x α k => (if 0 <= (if 2000 < (x.length : Int) then 2000 else (x.length : Int)) /\ (if 2000 < (x.length : Int) then 2000 else (x.length : Int)) <= x.length then (k ((x.take (if 2000 < (x.length : Int) then 2000 else (x.length : Int)).toNat), 0)) else none)
abbrev zAB (N : Nat) (x : qL) : Option (qL × Int) := (zAC N).d x
def F9_e (N : Nat) : Ent qP := zK (zc qP) zf (F9_g N) 9 Tryz.f9 Tryz.func9 zAA N [] (l := []) an (zAC N)
def zvQ : Nat -> Keep × Keep := anL []
def zzs (N : Nat) : List (Ent qP) := []
def zrV (N : Nat) : FSpec where
 X := qL × Int
 Y := Int × qL × Int
 ad := .mk [.ptr 0 0] [.cells [.lst 1, .int .i64]] rfl
 bsh := [[some 1, none]]
 S := ⟨[[none]], [[some 1, none]], [], [], []⟩
 ret := λ y => ⟨(AV.v (.int .i64 y.1)), [[(AV.list 1 y.2.1 none), (AV.v (.int .i64 y.2.2))]], none, [], [], [], none⟩
 t := λ x α k => (match (decide (x.2 >= (x.1.length : Int))) with | true => (k (0, x)) | false => (if 0 <= (i64 ((i64 (x.2 + 1)) - 1)) then (match x.1[(i64 ((i64 (x.2 + 1)) - 1)).toNat]? with | some c1 => (match c1[0]? with | some x2 => (match x2 with | .v (.int q4 n3) => (if q4 = .i64 then (k (n3, x.1, (i64 (x.2 + 1)))) else none) | _ => none) | none => none) | none => none) else none))
abbrev zrU (N : Nat) (x : qL × Int) : Option (Int × qL × Int) := (zrV N).d x
def zzr (N : Nat) : Ent qP := zK (zc qP) zf (zzs N) 43 Tryz.f43 Tryz.func43 zvQ N [] (l := []) an (zrV N)
def zu4 : Nat -> Keep × Keep := anL []
def zyZ (N : Nat) : List (Ent qP) := [zzr N, zvP N]
def zrq (N : Nat) : FSpec where
 X := Int × qL × Int
 Y := Int × qL × Int
 ad := .mk [.ptr 0 0, .int .i64] [.cells [.lst 1, .int .i64]] rfl
 bsh := [[some 1, none]]
 S := ⟨[[none]], [[some 1, none]], [], [], []⟩
 ret := λ y => ⟨(AV.v (.int .i64 y.1)), [[(AV.list 1 y.2.1 none), (AV.v (.int .i64 y.2.2))]], none, [], [], [], none⟩
 t := λ x α k => (match zrU N x.2 with | some y1 => (match znD N (y1.1, x.1) with | some y2 => (k (y2, y1.2)) | none => none) | none => none)
abbrev zN (N : Nat) (x : Int × qL × Int) : Option (Int × qL × Int) := (zrq N).d x
def zdV (N : Nat) : Ent qP := zK (zc qP) zf (zyZ N) 11 Tryz.f11 Tryz.func11 zu4 N [] (l := []) an (zrq N)
abbrev RK8 : List Ck := [.str, .str, .str, .str, .int .i64, .int .i64, .int .i64, .int .i64, .int .i64, .tk 9 6401049152, .int .i64, .int .i64, .int .i64, .int .i64, .int .i64, .int .i64, .int .i64, .int .i64, .int .i64, .int .i64, .int .i64, .int .i64, .int .i64, .int .i64, .int .i64]
abbrev RT8 : Type := ByteArray × ByteArray × ByteArray × ByteArray × Int × Int × Int × Int × Int × qL × Int × Int × Int × Int × Int × Int × Int × Int × Int × Int × Int × Int × Int × Int × Int × Unit
abbrev RK9 : List Ck := [.str, .str, .str, .str, .int .i64, .int .i64, .int .i64, .int .i64, .int .i64, .tk 9 6401311296, .int .i64, .int .i64, .int .i64, .int .i64, .int .i64, .int .i64, .int .i64, .int .i64, .int .i64, .int .i64, .int .i64, .int .i64, .int .i64, .int .i64, .int .i64]
abbrev RT9 : Type := ByteArray × ByteArray × ByteArray × ByteArray × Int × Int × Int × Int × Int × qL × Int × Int × Int × Int × Int × Int × Int × Int × Int × Int × Int × Int × Int × Int × Int × Unit
def zvW : Nat -> Keep × Keep := anL []
def zzw (N : Nat) : List (Ent qP) := [zdV N]
def zrX (N : Nat) : FSpec where
 X := Int × qL × Int
 Y := Int × Int × Int × qL × Int
 ad := .mk [.ptr 0 0, .int .i64] [.cells [.lst 1, .int .i64]] rfl
 bsh := [[some 1, none]]
 S := ⟨[[none, none, none]], [[some 1, none]], [], [], []⟩
 ret := λ y => ⟨(AV.agg [(AV.v (.int .i64 y.1)), (AV.v (.int .i64 y.2.1)), (AV.v (.int .i64 y.2.2.1))]), [[(AV.list 1 y.2.2.2.1 none), (AV.v (.int .i64 y.2.2.2.2))]], none, [], [], [], none⟩
 t := λ x α k => (match zN N ((i64 ((i64 (2 * x.1)) + 1)), x.2) with | some y1 => (match zN N ((i64 ((i64 (2 * x.1)) + 1)), y1.2) with | some y2 => (match zN N ((i64 (x.1 + 1)), y2.2) with | some y3 => (k ((i64 (y1.1 - x.1)), (i64 (y2.1 - x.1)), y3)) | none => none) | none => none) | none => none)
abbrev znF (N : Nat) (x : Int × qL × Int) : Option (Int × Int × Int × qL × Int) := (zrX N).d x
def zvX (N : Nat) : Ent qP := zK (zc qP) zf (zzw N) 46 Tryz.f46 Tryz.func46 zvW N [] (l := []) an (zrX N)
def zu7 : Nat -> Keep × Keep := anL []
def zy2 (N : Nat) : List (Ent qP) := [zdV N]
def zrt (N : Nat) : FSpec where
 X := qL × qL × Int
 Y := Int × qL × Int
 ad := .mk [.ptr 0 0, .lst 1] [.cells [.lst 1, .int .i64]] rfl
 bsh := [[some 1, none]]
 S := ⟨[[none]], [[some 1, none]], [], [], []⟩
 ret := λ y => ⟨(AV.v (.int .i64 y.1)), [[(AV.list 1 y.2.1 none), (AV.v (.int .i64 y.2.2))]], none, [], [], [], none⟩
 t := λ x α k => (match zN N ((x.1.length : Int), x.2) with | some y1 => (if 0 <= y1.1 then (match x.1[y1.1.toNat]? with | some c2 => (match c2[0]? with | some x3 => (match x3 with | .v (.int q5 n4) => (if q5 = .i64 then (k (n4, y1.2)) else none) | _ => none) | none => none) | none => none) else none) | none => none)
abbrev zcW (N : Nat) (x : qL × qL × Int) : Option (Int × qL × Int) := (zrt N).d x
def znv (N : Nat) : Ent qP := zK (zc qP) zf (zy2 N) 14 Tryz.f14 Tryz.func14 zu7 N [] (l := []) an (zrt N)
def zhi : Nat -> Keep × Keep := anL [(6, ⟨[0, 1, 4, 5, 6, 7], [], [0, 4, 5], [], [((4, 9), 9), ((5, 9), 9)], [], [], [], false, none, []⟩, ⟨[0, 4, 5, 6], [], [0, 4, 5], [], [((4, 9), 9), ((5, 9), 9)], [], [], [], false, none, []⟩)]
def zu9 (N : Nat) : List (Ent qP) := [zdV N, zrW N, zvX N, znv N]
def jf (N : Nat) : LSpec where
 X := Int × Int × Int × qL × Int × RT8 × RT9
 Y := (Int × qL × Int × RT8 × RT9)
 dt := .mk 98 1 (zhi 6).1.toks [(0, .ptr 0 0), (1, .int .i64), (4, .ptr 4 0), (5, .ptr 5 0), (6, .int .i64), (7, .int .i64)] [(0, .cells [.lst 1, .int .i64]), (4, .row RK8), (5, .row RK9)] rfl
 od := .mk 98 1 (zhi 6).2.toks [⟨.exit 0, [(0, .ptr 0 0), (4, .ptr 4 0), (5, .ptr 5 0), (6, .int .i64)], [(0, .cells [.lst 1, .int .i64]), (4, .row RK8), (5, .row RK9)], none⟩] rfl
 b := λ u6 α kn ke => (match zN N (4, u6.2.2.2.1, u6.2.2.2.2.1) with | some y5 => (match (decide (u6.2.2.1 < (i64 (1 + y5.1)))) with | true => (match znE N u6.2.2.1 with | some y6 => (match zN N (3, y5.2) with | some y7 => (if (u6.2.2.2.2.2.2.2.2.2.2.2.2.2.2.2.1.length + [(zj (y6.1, y6.2.1, y6.2.2.1, y6.2.2.2.1, (i64 (u6.2.1 + (i64 (10 * u6.1)))), (i64 (u6.2.1 + (i64 (10 * u6.1)))), (i64 ((i64 (u6.2.1 + (i64 (10 * u6.1)))) + y7.1)), u6.1, 0, ()))].length) * 104 <= ze then (kn (u6.1, u6.2.1, (i64 (u6.2.2.1 + 1)), y7.2.1, y7.2.2, u6.2.2.2.2.2.1, (u6.2.2.2.2.2.2.1, u6.2.2.2.2.2.2.2.1, u6.2.2.2.2.2.2.2.2.1, u6.2.2.2.2.2.2.2.2.2.1, u6.2.2.2.2.2.2.2.2.2.2.1, u6.2.2.2.2.2.2.2.2.2.2.2.1, u6.2.2.2.2.2.2.2.2.2.2.2.2.1, u6.2.2.2.2.2.2.2.2.2.2.2.2.2.1, u6.2.2.2.2.2.2.2.2.2.2.2.2.2.2.1, (u6.2.2.2.2.2.2.2.2.2.2.2.2.2.2.2.1 ++ [(zj (y6.1, y6.2.1, y6.2.2.1, y6.2.2.2.1, (i64 (u6.2.1 + (i64 (10 * u6.1)))), (i64 (u6.2.1 + (i64 (10 * u6.1)))), (i64 ((i64 (u6.2.1 + (i64 (10 * u6.1)))) + y7.1)), u6.1, 0, ()))]), u6.2.2.2.2.2.2.2.2.2.2.2.2.2.2.2.2))) else none) | none => none) | none => none) | false => (ke (u6.2.1, y5.2.1, y5.2.2, u6.2.2.2.2.2))) | none => none)
abbrev zpY (N : Nat) (x : Int × Int × Int × qL × Int × RT8 × RT9) : Option ((Int × qL × Int × RT8 × RT9)) := (jf N).L N x
def zrv (N : Nat) : FSpec where
 X := Int × qL × Int
 Y := RT0 × qL × Int
 ad := .mk [.ptr 0 0, .int .i64] [.cells [.lst 1, .int .i64]] rfl
 bsh := [[some 1, none]]
 S := ⟨[[none, none, none, none, none, none, none, none, none, some 9, none, none, none, none, none, none, none, none, none, none, none, none, none, none, none]], [[some 1, none]], [], [], []⟩
 ret := λ y => ⟨(AV.agg (zu y.1)), [[(AV.list 1 y.2.1 none), (AV.v (.int .i64 y.2.2))]], none, [], [], [], none⟩
 t := λ x α k => (match zN N (300, x.2) with | some y1 => (match zpY N (x.1, (i64 (1000 + y1.1)), 0, y1.2.1, y1.2.2, ((⟨#[]⟩ : ByteArray), (⟨#[]⟩ : ByteArray), (⟨#[]⟩ : ByteArray), (⟨#[]⟩ : ByteArray), 0, 0, 0, 0, 0, ([] : qL), 0, 0, 0, 0, 0, 0, 0, 0, 0, 0, 0, 0, 0, 0, 0, ()), ((⟨#[]⟩ : ByteArray), (⟨#[]⟩ : ByteArray), (⟨#[]⟩ : ByteArray), (⟨#[]⟩ : ByteArray), 0, 0, 0, 0, 0, ([] : qL), 0, 0, 0, 0, 0, 0, 0, 0, 0, 0, 0, 0, 0, 0, 0, ())) with | some y8 => (if 0 <= (0 : Int) then (match y8.2.2.2.2.2.2.2.2.2.2.2.2.2.1[(0 : Int).toNat]? with | some c9 => (match jI c9 with | some e10 => (match znF N (20, y8.2.1, y8.2.2.1) with | some y11 => (match zN N (40, y11.2.2.2) with | some y12 => (match zcW N ([[(AV.v (.int .i64 0))], [(AV.v (.int .i64 0))], [(AV.v (.int .i64 5))], [(AV.v (.int .i64 500))]], y12.2) with | some y13 => (match zN N (3, y13.2) with | some y14 => (match (decide (y14.1 > 0)) with | true => (match zN N (400, y14.2) with | some y15 => (match zN N (60, y15.2) with | some y16 => (k ((e10.1, e10.2.1, e10.2.2.1, e10.2.2.2.1, e10.2.2.2.2.1, e10.2.2.2.2.2.1, e10.2.2.2.2.2.2.1, e10.2.2.2.2.2.2.2.1, e10.2.2.2.2.2.2.2.2.1, y8.2.2.2.2.2.2.2.2.2.2.2.2.2.1, y11.1, y11.2.1, y11.2.2.1, (i64 (y8.1 - y12.1)), y13.1, 0, y11.1, y11.2.1, y11.2.2.1, y11.1, y11.2.1, y11.2.2.1, y15.1, (i64 (y15.1 + y16.1)), y14.1, ()), y16.2)) | none => none) | none => none) | false => (k ((e10.1, e10.2.1, e10.2.2.1, e10.2.2.2.1, e10.2.2.2.2.1, e10.2.2.2.2.2.1, e10.2.2.2.2.2.2.1, e10.2.2.2.2.2.2.2.1, e10.2.2.2.2.2.2.2.2.1, y8.2.2.2.2.2.2.2.2.2.2.2.2.2.1, y11.1, y11.2.1, y11.2.2.1, (i64 (y8.1 - y12.1)), y13.1, 0, y11.1, y11.2.1, y11.2.2.1, y11.1, y11.2.1, y11.2.2.1, y8.2.2.2.2.2.2.2.2.2.2.2.2.2.2.2.2.2.2.2.2.2.2.2.2.2.2.1, y8.2.2.2.2.2.2.2.2.2.2.2.2.2.2.2.2.2.2.2.2.2.2.2.2.2.2.2.1, y14.1, ()), y14.2))) | none => none) | none => none) | none => none) | none => none) | none => none) | none => none) else none) | none => none) | none => none)
abbrev zru (N : Nat) (x : Int × qL × Int) : Option (RT0 × qL × Int) := (zrv N).d x
def zpZ (N : Nat) : List (Nat × LSpec) := [(6, jf N)]
def zu8 : Code := Tryz.f15.body.getD .skip
theorem zkj (N : Nat) : Zb qP zhi N (zpZ N) 6 (zb 6 zu8) :=
 zC (zc qP) zf (zu9 N) (l := []) an (jf N)
def zy3 (N : Nat) : Ent qP := zK (zc qP) zf (zu9 N) 15 Tryz.f15 Tryz.func15 zhi N (zpZ N) (l := [(6, zb 6 zu8)]) (al (zkj N) an) (zrv N)
abbrev zBw : List Ck := [.str, .str, .str, .str, .int .i64, .int .i64, .int .i64, .int .i64, .int .i64, .vs 2020489 9, .int .i64, .int .i64, .int .i64, .int .i64, .int .i64, .int .i64, .int .i64, .int .i64, .int .i64, .int .i64, .int .i64, .int .i64, .int .i64, .int .i64, .int .i64]
abbrev zxa : Type := ByteArray × ByteArray × ByteArray × ByteArray × Int × Int × Int × Int × Int × Nat × Int × Int × Int × Int × Int × Int × Int × Int × Int × Int × Int × Int × Int × Int × Int × Unit
abbrev RK11 : List Ck := [.str, .str, .str, .str, .int .i64, .int .i64, .int .i64, .int .i64, .int .i64, .vs 1 9, .int .i64, .int .i64, .int .i64, .int .i64, .int .i64, .int .i64, .int .i64, .int .i64, .int .i64, .int .i64, .int .i64, .int .i64, .int .i64, .int .i64, .int .i64]
abbrev zxb : Type := ByteArray × ByteArray × ByteArray × ByteArray × Int × Int × Int × Int × Int × Nat × Int × Int × Int × Int × Int × Int × Int × Int × Int × Int × Int × Int × Int × Int × Int × Unit
def zAI (e : zxb) : List AV := enc RK11 e
def zdX : Nat -> Keep × Keep := anL [(6, ⟨[0, 1, 4, 5, 6, 7], [], [0, 4, 5], [], [((4, 9), 9)], [], [((5, 9), 9)], [], false, none, []⟩, ⟨[0, 4, 5, 6], [], [0, 4, 5], [], [((4, 9), 9)], [], [((5, 9), 9)], [], false, none, []⟩)]
def zp1 (N : Nat) : List (Ent qP) := [zdV N, zrW N, zvX N, znv N]
def Zu (N : Nat) : LSpec where
 X := Int × Int × Int × qL × Int × RT8 × zxa × qA
 Y := (Int × qL × Int × RT8 × zxa × qA)
 dt := .mk 98 1 (zdX 6).1.toks [(0, .ptr 0 0), (1, .int .i64), (4, .ptr 4 0), (5, .ptr 5 0), (6, .int .i64), (7, .int .i64)] [(0, .cells [.lst 1, .int .i64]), (4, .row RK8), (5, .row zBw), (2020489, .tt)] rfl
 od := .mk 98 1 (zdX 6).2.toks [⟨.exit 0, [(0, .ptr 0 0), (4, .ptr 4 0), (5, .ptr 5 0), (6, .int .i64)], [(0, .cells [.lst 1, .int .i64]), (4, .row RK8), (5, .row zBw), (2020489, .tt)], none⟩] rfl
 b := λ u6 α kn ke => (match zN N (4, u6.2.2.2.1, u6.2.2.2.2.1) with | some y5 => (match (decide (u6.2.2.1 < (i64 (1 + y5.1)))) with | true => (match znE N u6.2.2.1 with | some y6 => (match zN N (3, y5.2) with | some y7 => (if u6.2.2.2.2.2.2.1.2.2.2.2.2.2.2.2.2.1 * 9 <= u6.2.2.2.2.2.2.2.length /\ (u6.2.2.2.2.2.2.1.2.2.2.2.2.2.2.2.2.1 + [(zj (y6.1, y6.2.1, y6.2.2.1, y6.2.2.2.1, (i64 (u6.2.1 + (i64 (10 * u6.1)))), (i64 (u6.2.1 + (i64 (10 * u6.1)))), (i64 ((i64 (u6.2.1 + (i64 (10 * u6.1)))) + y7.1)), u6.1, 0, ()))].length) * 104 <= ze then (kn (u6.1, u6.2.1, (i64 (u6.2.2.1 + 1)), y7.2.1, y7.2.2, u6.2.2.2.2.2.1, (u6.2.2.2.2.2.2.1.1, u6.2.2.2.2.2.2.1.2.1, u6.2.2.2.2.2.2.1.2.2.1, u6.2.2.2.2.2.2.1.2.2.2.1, u6.2.2.2.2.2.2.1.2.2.2.2.1, u6.2.2.2.2.2.2.1.2.2.2.2.2.1, u6.2.2.2.2.2.2.1.2.2.2.2.2.2.1, u6.2.2.2.2.2.2.1.2.2.2.2.2.2.2.1, u6.2.2.2.2.2.2.1.2.2.2.2.2.2.2.2.1, (u6.2.2.2.2.2.2.1.2.2.2.2.2.2.2.2.2.1 + [(zj (y6.1, y6.2.1, y6.2.2.1, y6.2.2.2.1, (i64 (u6.2.1 + (i64 (10 * u6.1)))), (i64 (u6.2.1 + (i64 (10 * u6.1)))), (i64 ((i64 (u6.2.1 + (i64 (10 * u6.1)))) + y7.1)), u6.1, 0, ()))].length), u6.2.2.2.2.2.2.1.2.2.2.2.2.2.2.2.2.2), ((u6.2.2.2.2.2.2.2.take (u6.2.2.2.2.2.2.1.2.2.2.2.2.2.2.2.2.1 * 9) ++ [(zj (y6.1, y6.2.1, y6.2.2.1, y6.2.2.2.1, (i64 (u6.2.1 + (i64 (10 * u6.1)))), (i64 (u6.2.1 + (i64 (10 * u6.1)))), (i64 ((i64 (u6.2.1 + (i64 (10 * u6.1)))) + y7.1)), u6.1, 0, ()))].flatten).map dat0))) else none) | none => none) | none => none) | false => (ke (u6.2.1, y5.2.1, y5.2.2, u6.2.2.2.2.2.1, u6.2.2.2.2.2.2.1, (u6.2.2.2.2.2.2.2.map dat0)))) | none => none)
abbrev zkl (N : Nat) (x : Int × Int × Int × qL × Int × RT8 × zxa × qA) : Option ((Int × qL × Int × RT8 × zxa × qA)) := (Zu N).L N x
def zkn (N : Nat) : FSpec where
 X := Int × qL × Int
 Y := zxb × qL × Int × qA
 ad := .mk [.ptr 0 0, .int .i64] [.cells [.lst 1, .int .i64]] rfl
 bsh := [[some 1, none]]
 S := ⟨[[none, none, none, none, none, none, none, none, none, some 9, none, none, none, none, none, none, none, none, none, none, none, none, none, none, none]], [[some 1, none]], [], [], []⟩
 bm := true
 ret := λ y => ⟨(AV.agg (zAI y.1)), [[(AV.list 1 y.2.1 none), (AV.v (.int .i64 y.2.2.1))]], some y.2.2.2, [], [], [], none⟩
 t := λ x α k => (match zN N (300, x.2) with | some y1 => (match zkl N (x.1, (i64 (1000 + y1.1)), 0, y1.2.1, y1.2.2, ((⟨#[]⟩ : ByteArray), (⟨#[]⟩ : ByteArray), (⟨#[]⟩ : ByteArray), (⟨#[]⟩ : ByteArray), 0, 0, 0, 0, 0, ([] : qL), 0, 0, 0, 0, 0, 0, 0, 0, 0, 0, 0, 0, 0, 0, 0, ()), ((⟨#[]⟩ : ByteArray), (⟨#[]⟩ : ByteArray), (⟨#[]⟩ : ByteArray), (⟨#[]⟩ : ByteArray), 0, 0, 0, 0, 0, 0, 0, 0, 0, 0, 0, 0, 0, 0, 0, 0, 0, 0, 0, 0, 0, ()), ([] : List AV)) with | some y8 => (if 0 <= (0 : Int) /\ (0 : Int) < (y8.2.2.2.2.1.2.2.2.2.2.2.2.2.2.1 : Int) then (match jI (y8.2.2.2.2.2.drop ((0 + (0 : Int).toNat) * 9)) with | some e9 => (match znF N (20, y8.2.1, y8.2.2.1) with | some y10 => (match zN N (40, y10.2.2.2) with | some y11 => (match zcW N ([[(AV.v (.int .i64 0))], [(AV.v (.int .i64 0))], [(AV.v (.int .i64 5))], [(AV.v (.int .i64 500))]], y11.2) with | some y12 => (match zN N (3, y12.2) with | some y13 => (match (decide (y13.1 > 0)) with | true => (match zN N (400, y13.2) with | some y14 => (match zN N (60, y14.2) with | some y15 => (k ((e9.1, e9.2.1, e9.2.2.1, e9.2.2.2.1, e9.2.2.2.2.1, e9.2.2.2.2.2.1, e9.2.2.2.2.2.2.1, e9.2.2.2.2.2.2.2.1, e9.2.2.2.2.2.2.2.2.1, y8.2.2.2.2.1.2.2.2.2.2.2.2.2.2.1, y10.1, y10.2.1, y10.2.2.1, (i64 (y8.1 - y11.1)), y12.1, 0, y10.1, y10.2.1, y10.2.2.1, y10.1, y10.2.1, y10.2.2.1, y14.1, (i64 (y14.1 + y15.1)), y13.1, ()), y15.2.1, y15.2.2, (y8.2.2.2.2.2.map dat0))) | none => none) | none => none) | false => (k ((e9.1, e9.2.1, e9.2.2.1, e9.2.2.2.1, e9.2.2.2.2.1, e9.2.2.2.2.2.1, e9.2.2.2.2.2.2.1, e9.2.2.2.2.2.2.2.1, e9.2.2.2.2.2.2.2.2.1, y8.2.2.2.2.1.2.2.2.2.2.2.2.2.2.1, y10.1, y10.2.1, y10.2.2.1, (i64 (y8.1 - y11.1)), y12.1, 0, y10.1, y10.2.1, y10.2.2.1, y10.1, y10.2.1, y10.2.2.1, y8.2.2.2.2.1.2.2.2.2.2.2.2.2.2.2.2.2.2.2.2.2.2.2.2.2.2.2.1, y8.2.2.2.2.1.2.2.2.2.2.2.2.2.2.2.2.2.2.2.2.2.2.2.2.2.2.2.2.1, y13.1, ()), y13.2.1, y13.2.2, (y8.2.2.2.2.2.map dat0)))) | none => none) | none => none) | none => none) | none => none) | none => none) else none) | none => none) | none => none)
abbrev zkk (N : Nat) (x : Int × qL × Int) : Option (zxb × qL × Int × qA) := (zkn N).d x
def zkm (N : Nat) : List (Nat × LSpec) := [(6, Zu N)]
def zp0 : Code := Tryz.f15.body.getD .skip
theorem ziI (N : Nat) : Zb qP zdX N (zkm N) 6 (zb 6 zp0) :=
 zC (zx qP [41]) zf (zp1 N) (l := []) an (Zu N)
def zva (N : Nat) : Ent qP := zK (zx qP [41]) zf (zp1 N) 15 Tryz.f15 Tryz.func15 zdX N (zkm N) (l := [(6, zb 6 zp0)]) (al (ziI N) an) (zkn N)
abbrev zBx : List Ck := [.str, .str, .str, .str, .int .i64, .int .i64, .int .i64, .int .i64, .int .i64, .vs 19 9, .int .i64, .int .i64, .int .i64, .int .i64, .int .i64, .int .i64, .int .i64, .int .i64, .int .i64, .int .i64, .int .i64, .int .i64, .int .i64, .int .i64, .int .i64]
abbrev zyB : Type := ByteArray × ByteArray × ByteArray × ByteArray × Int × Int × Int × Int × Int × Nat × Int × Int × Int × Int × Int × Int × Int × Int × Int × Int × Int × Int × Int × Int × Int × Unit
def zbN : Nat -> Keep × Keep := anF [(5, ⟨[0, 1, 6], [], [0], [], [], [(5, 25)], [], [], false, none, []⟩, ⟨[], [], [0], [], [], [(5, 25)], [], [], false, none, []⟩), (18, ⟨[0, 1, 5, 6, 7, 23, 24], [], [0, 7, 19, 1000005], [], [], [], [], [19, 1000005], false, none, []⟩, ⟨[0, 1, 5, 6, 7], [], [0, 7, 19, 1000005], [], [], [], [], [19, 1000005], false, none, []⟩)] [(100015, ([], [((7, 9), 9)])), (100016, ([5], []))]
def zrI (N : Nat) : List (Ent qP) := [zdV N, zva N]
def Z3 (N : Nat) : LSpec where
 X := Int × Nat × Int × Int × Int × qL × Int × zyB × qA × qA
 Y := (Int × Nat × Int × qL × Int × zyB × qA × qA)
 dt := .mk 86 1 (zbN 18).1.toks [(0, .ptr 0 0), (1, .int .i64), (5, .vs0 1000005 25), (6, .int .i64), (7, .ptr 7 0), (23, .int .i64), (24, .int .i64)] [(0, .cells [.lst 1, .int .i64]), (7, .row zBx), (19, .tt), (1000005, .tt)] rfl
 od := .mk 86 1 (zbN 18).2.toks [⟨.exit 2, [(0, .ptr 0 0), (1, .int .i64), (5, .vs0 1000005 25), (6, .int .i64), (7, .ptr 7 0)], [(0, .cells [.lst 1, .int .i64]), (7, .row zBx), (19, .tt), (1000005, .tt)], none⟩] rfl
 b := λ u18 α kn ke => (match (decide (u18.2.2.2.2.1 < u18.2.2.2.1)) with | true => (if 0 <= u18.2.2.2.2.1 /\ u18.2.2.2.2.1 < (u18.2.2.2.2.2.2.2.1.2.2.2.2.2.2.2.2.2.1 : Int) then (if (((0 + u18.2.2.2.2.1.toNat) * 9) + 4) + 1 <= u18.2.2.2.2.2.2.2.2.1.length then (if (((0 + u18.2.2.2.2.1.toNat) * 9) + 5) + 1 <= (splice u18.2.2.2.2.2.2.2.2.1 (((0 + u18.2.2.2.2.1.toNat) * 9) + 4) [(AV.v (.int .i64 (i64 ((i64 (1000 + (i64 (400 * u18.2.2.1)))) + u18.2.2.2.2.1))))]).length then (if (((0 + u18.2.2.2.2.1.toNat) * 9) + 6) + 1 <= (splice (splice u18.2.2.2.2.2.2.2.2.1 (((0 + u18.2.2.2.2.1.toNat) * 9) + 4) [(AV.v (.int .i64 (i64 ((i64 (1000 + (i64 (400 * u18.2.2.1)))) + u18.2.2.2.2.1))))]) (((0 + u18.2.2.2.2.1.toNat) * 9) + 5) [(AV.v (.int .i64 (i64 ((i64 (1000 + (i64 (400 * u18.2.2.1)))) + u18.2.2.2.2.1))))]).length then (if (((0 + u18.2.2.2.2.1.toNat) * 9) + 7) + 1 <= (splice (splice (splice u18.2.2.2.2.2.2.2.2.1 (((0 + u18.2.2.2.2.1.toNat) * 9) + 4) [(AV.v (.int .i64 (i64 ((i64 (1000 + (i64 (400 * u18.2.2.1)))) + u18.2.2.2.2.1))))]) (((0 + u18.2.2.2.2.1.toNat) * 9) + 5) [(AV.v (.int .i64 (i64 ((i64 (1000 + (i64 (400 * u18.2.2.1)))) + u18.2.2.2.2.1))))]) (((0 + u18.2.2.2.2.1.toNat) * 9) + 6) [(AV.v (.int .i64 (i64 ((i64 ((i64 (1000 + (i64 (400 * u18.2.2.1)))) + u18.2.2.2.2.1)) + 2))))]).length then (kn (u18.1, u18.2.1, u18.2.2.1, u18.2.2.2.1, (i64 (u18.2.2.2.2.1 + 1)), u18.2.2.2.2.2.1, u18.2.2.2.2.2.2.1, u18.2.2.2.2.2.2.2.1, ((splice (splice (splice (splice u18.2.2.2.2.2.2.2.2.1 (((0 + u18.2.2.2.2.1.toNat) * 9) + 4) [(AV.v (.int .i64 (i64 ((i64 (1000 + (i64 (400 * u18.2.2.1)))) + u18.2.2.2.2.1))))]) (((0 + u18.2.2.2.2.1.toNat) * 9) + 5) [(AV.v (.int .i64 (i64 ((i64 (1000 + (i64 (400 * u18.2.2.1)))) + u18.2.2.2.2.1))))]) (((0 + u18.2.2.2.2.1.toNat) * 9) + 6) [(AV.v (.int .i64 (i64 ((i64 ((i64 (1000 + (i64 (400 * u18.2.2.1)))) + u18.2.2.2.2.1)) + 2))))]) (((0 + u18.2.2.2.2.1.toNat) * 9) + 7) [(AV.v (.int .i64 7))]).map dat0), (u18.2.2.2.2.2.2.2.2.2.map dat0))) else none) else none) else none) else none) else none) | false => (ke (u18.1, u18.2.1, u18.2.2.1, u18.2.2.2.2.2.1, u18.2.2.2.2.2.2.1, u18.2.2.2.2.2.2.2.1, (u18.2.2.2.2.2.2.2.2.1.map dat0), (u18.2.2.2.2.2.2.2.2.2.map dat0))))
abbrev zrH (N : Nat) (x : Int × Nat × Int × Int × Int × qL × Int × zyB × qA × qA) : Option ((Int × Nat × Int × qL × Int × zyB × qA × qA)) := (Z3 N).L N x
def ja (N : Nat) : LSpec where
 X := Nat × Int × Int × qL × Int × qA
 Y := (Nat × qL × Int × qA)
 dt := .mk 86 1 (zbN 5).1.toks [(5, .vs0 1000005 25), (0, .ptr 0 0), (1, .int .i64), (6, .int .i64)] [(0, .cells [.lst 1, .int .i64]), (1000005, .tt)] rfl
 od := .mk 86 1 (zbN 5).2.toks [⟨.exit 0, [(5, .vs0 1000005 25)], [(0, .cells [.lst 1, .int .i64]), (1000005, .tt)], none⟩] rfl
 b := λ u5 α kn ke => (match (decide (u5.2.2.1 < u5.2.1)) with | true => (match zN N (3, u5.2.2.2.1, u5.2.2.2.2.1) with | some y6 => (match (y6.1 == 0) with | true => (kn (u5.1, u5.2.1, (i64 (u5.2.2.1 + 1)), y6.2.1, y6.2.2, (u5.2.2.2.2.2.map dat0))) | false => (match zkk N (1, y6.2) with | some y7 => (match zrH N (u5.2.1, u5.1, u5.2.2.1, ((y7.1.2.2.2.2.2.2.2.2.2.1 : Nat) : Int), 0, y7.2.1, y7.2.2.1, y7.1, ((y7.2.2.2.map dat0).map dat0), (u5.2.2.2.2.2.map dat0)) with | some y8 => (match zN N (2, y8.2.2.2.1, y8.2.2.2.2.1) with | some y9 => (if 0 <= (if (i64 (((y8.2.2.2.2.2.1.2.2.2.2.2.2.2.2.2.1 : Nat) : Int) - 1)) < y9.1 then (i64 (((y8.2.2.2.2.2.1.2.2.2.2.2.2.2.2.2.1 : Nat) : Int) - 1)) else y9.1) /\ (if (i64 (((y8.2.2.2.2.2.1.2.2.2.2.2.2.2.2.2.1 : Nat) : Int) - 1)) < y9.1 then (i64 (((y8.2.2.2.2.2.1.2.2.2.2.2.2.2.2.2.1 : Nat) : Int) - 1)) else y9.1) <= (y8.2.2.2.2.2.1.2.2.2.2.2.2.2.2.2.1 : Int) then (if 0 <= (0 : Int) /\ (0 : Int) < (((y8.2.2.2.2.2.1.2.2.2.2.2.2.2.2.2.1 - (if (i64 (((y8.2.2.2.2.2.1.2.2.2.2.2.2.2.2.2.1 : Nat) : Int) - 1)) < y9.1 then (i64 (((y8.2.2.2.2.2.1.2.2.2.2.2.2.2.2.2.1 : Nat) : Int) - 1)) else y9.1).toNat) : Nat) : Int) then (match jI (y8.2.2.2.2.2.2.1.drop (((0 + (if (i64 (((y8.2.2.2.2.2.1.2.2.2.2.2.2.2.2.2.1 : Nat) : Int) - 1)) < y9.1 then (i64 (((y8.2.2.2.2.2.1.2.2.2.2.2.2.2.2.2.1 : Nat) : Int) - 1)) else y9.1).toNat) + (0 : Int).toNat) * 9)) with | some e10 => (if (y8.2.2.2.2.2.1.2.2.2.2.2.2.2.2.2.1 - (if (i64 (((y8.2.2.2.2.2.1.2.2.2.2.2.2.2.2.2.1 : Nat) : Int) - 1)) < y9.1 then (i64 (((y8.2.2.2.2.2.1.2.2.2.2.2.2.2.2.2.1 : Nat) : Int) - 1)) else y9.1).toNat) * 9 <= (ZM (0 + (if (i64 (((y8.2.2.2.2.2.1.2.2.2.2.2.2.2.2.2.1 : Nat) : Int) - 1)) < y9.1 then (i64 (((y8.2.2.2.2.2.1.2.2.2.2.2.2.2.2.2.1 : Nat) : Int) - 1)) else y9.1).toNat) 9 y8.2.2.2.2.2.2.1).length then (if y8.2.1 * 25 <= y8.2.2.2.2.2.2.2.length /\ (y8.2.1 + [(zu (e10.1, e10.2.1, e10.2.2.1, e10.2.2.2.1, e10.2.2.2.2.1, e10.2.2.2.2.2.1, e10.2.2.2.2.2.2.1, e10.2.2.2.2.2.2.2.1, e10.2.2.2.2.2.2.2.2.1, (zo ((ZM (0 + (if (i64 (((y8.2.2.2.2.2.1.2.2.2.2.2.2.2.2.2.1 : Nat) : Int) - 1)) < y9.1 then (i64 (((y8.2.2.2.2.2.1.2.2.2.2.2.2.2.2.2.1 : Nat) : Int) - 1)) else y9.1).toNat) 9 y8.2.2.2.2.2.2.1).take ((y8.2.2.2.2.2.1.2.2.2.2.2.2.2.2.2.1 - (if (i64 (((y8.2.2.2.2.2.1.2.2.2.2.2.2.2.2.2.1 : Nat) : Int) - 1)) < y9.1 then (i64 (((y8.2.2.2.2.2.1.2.2.2.2.2.2.2.2.2.1 : Nat) : Int) - 1)) else y9.1).toNat) * 9)) 9 (y8.2.2.2.2.2.1.2.2.2.2.2.2.2.2.2.1 - (if (i64 (((y8.2.2.2.2.2.1.2.2.2.2.2.2.2.2.2.1 : Nat) : Int) - 1)) < y9.1 then (i64 (((y8.2.2.2.2.2.1.2.2.2.2.2.2.2.2.2.1 : Nat) : Int) - 1)) else y9.1).toNat)), y8.2.2.2.2.2.1.2.2.2.2.2.2.2.2.2.2))].length) * 248 <= ze then (kn ((y8.2.1 + [(zu (e10.1, e10.2.1, e10.2.2.1, e10.2.2.2.1, e10.2.2.2.2.1, e10.2.2.2.2.2.1, e10.2.2.2.2.2.2.1, e10.2.2.2.2.2.2.2.1, e10.2.2.2.2.2.2.2.2.1, (zo ((ZM (0 + (if (i64 (((y8.2.2.2.2.2.1.2.2.2.2.2.2.2.2.2.1 : Nat) : Int) - 1)) < y9.1 then (i64 (((y8.2.2.2.2.2.1.2.2.2.2.2.2.2.2.2.1 : Nat) : Int) - 1)) else y9.1).toNat) 9 y8.2.2.2.2.2.2.1).take ((y8.2.2.2.2.2.1.2.2.2.2.2.2.2.2.2.1 - (if (i64 (((y8.2.2.2.2.2.1.2.2.2.2.2.2.2.2.2.1 : Nat) : Int) - 1)) < y9.1 then (i64 (((y8.2.2.2.2.2.1.2.2.2.2.2.2.2.2.2.1 : Nat) : Int) - 1)) else y9.1).toNat) * 9)) 9 (y8.2.2.2.2.2.1.2.2.2.2.2.2.2.2.2.1 - (if (i64 (((y8.2.2.2.2.2.1.2.2.2.2.2.2.2.2.2.1 : Nat) : Int) - 1)) < y9.1 then (i64 (((y8.2.2.2.2.2.1.2.2.2.2.2.2.2.2.2.1 : Nat) : Int) - 1)) else y9.1).toNat)), y8.2.2.2.2.2.1.2.2.2.2.2.2.2.2.2.2))].length), y8.1, (i64 (y8.2.2.1 + 1)), y9.2.1, y9.2.2, ((y8.2.2.2.2.2.2.2.take (y8.2.1 * 25) ++ [(zu (e10.1, e10.2.1, e10.2.2.1, e10.2.2.2.1, e10.2.2.2.2.1, e10.2.2.2.2.2.1, e10.2.2.2.2.2.2.1, e10.2.2.2.2.2.2.2.1, e10.2.2.2.2.2.2.2.2.1, (zo ((ZM (0 + (if (i64 (((y8.2.2.2.2.2.1.2.2.2.2.2.2.2.2.2.1 : Nat) : Int) - 1)) < y9.1 then (i64 (((y8.2.2.2.2.2.1.2.2.2.2.2.2.2.2.2.1 : Nat) : Int) - 1)) else y9.1).toNat) 9 y8.2.2.2.2.2.2.1).take ((y8.2.2.2.2.2.1.2.2.2.2.2.2.2.2.2.1 - (if (i64 (((y8.2.2.2.2.2.1.2.2.2.2.2.2.2.2.2.1 : Nat) : Int) - 1)) < y9.1 then (i64 (((y8.2.2.2.2.2.1.2.2.2.2.2.2.2.2.2.1 : Nat) : Int) - 1)) else y9.1).toNat) * 9)) 9 (y8.2.2.2.2.2.1.2.2.2.2.2.2.2.2.2.1 - (if (i64 (((y8.2.2.2.2.2.1.2.2.2.2.2.2.2.2.2.1 : Nat) : Int) - 1)) < y9.1 then (i64 (((y8.2.2.2.2.2.1.2.2.2.2.2.2.2.2.2.1 : Nat) : Int) - 1)) else y9.1).toNat)), y8.2.2.2.2.2.1.2.2.2.2.2.2.2.2.2.2))].flatten).map dat0))) else none) else none) | none => none) else none) else none) | none => none) | none => none) | none => none)) | none => none) | false => (ke (u5.1, u5.2.2.2.1, u5.2.2.2.2.1, (u5.2.2.2.2.2.map dat0))))
abbrev zp3 (N : Nat) (x : Nat × Int × Int × qL × Int × qA) : Option ((Nat × qL × Int × qA)) := (ja N).L N x
def zrJ (N : Nat) : FSpec where
 X := Int × qL × Int
 Y := qL × qL × Int
 ad := .mk [.ptr 0 0, .int .i64] [.cells [.lst 1, .int .i64]] rfl
 bsh := [[some 1, none]]
 S := ⟨[[some 2000025]], [[some 1, none]], [], [], []⟩
 ret := λ y => ⟨(AV.list 25 y.1 (some 2560000000)), [[(AV.list 1 y.2.1 none), (AV.v (.int .i64 y.2.2))]], none, [], [2560000000], [], none⟩
 t := λ x α k => (match zp3 N (0, x.1, 0, x.2.1, x.2.2, ([] : List AV)) with | some y11 => (if y11.1 * 25 <= y11.2.2.2.length then (k ((zo (y11.2.2.2.take (y11.1 * 25)) 25 y11.1), y11.2.1, y11.2.2.1)) else none) | none => none)
abbrev ziM (N : Nat) (x : Int × qL × Int) : Option (qL × qL × Int) := (zrJ N).d x
def zky (N : Nat) : List (Nat × LSpec) := [(5, ja N), (18, Z3 N)]
def zkw : Code := Tryz.f27.body.getD .skip
theorem zdd (N : Nat) : Zb qP zbN N (zky N) 18 (zb 18 zkw) :=
 zC (zx qP [19, 84]) zf (zrI N) (l := []) an (Z3 N)
theorem zkx (N : Nat) : Zb qP zbN N (zky N) 5 (zb 5 zkw) :=
 zC (zx qP [19, 84]) zf (zrI N) (l := [(18, zb 18 zkw)]) (al (zdd N) an) (ja N)
def zzi (N : Nat) : Ent qP := zK (zx qP [19, 84]) zf (zrI N) 27 Tryz.f27 Tryz.func27 zbN N (zky N) (l := [(5, zb 5 zkw), (18, zb 18 zkw)]) (al (zkx N) (al (zdd N) an)) (zrJ N)
def zu6 : Nat -> Keep × Keep := anL []
def zy1 (N : Nat) : List (Ent qP) := [zdV N]
def zdW (N : Nat) : FSpec where
 X := qL × qL × Int
 Y := ByteArray × qL × Int
 ad := .mk [.ptr 0 0, .lst 1] [.cells [.lst 1, .int .i64]] rfl
 bsh := [[some 1, none]]
 S := ⟨[[none]], [[some 1, none]], [], [], []⟩
 ret := λ y => ⟨(AV.v (.string y.1)), [[(AV.list 1 y.2.1 none), (AV.v (.int .i64 y.2.2))]], none, [], [], [], none⟩
 t := λ x α k => (match zN N ((x.1.length : Int), x.2) with | some y1 => (if 0 <= y1.1 then (match x.1[y1.1.toNat]? with | some c2 => (match c2[0]? with | some x3 => (match x3 with | .v (.string s4) => (k (s4, y1.2)) | _ => none) | none => none) | none => none) else none) | none => none)
abbrev Ji (N : Nat) (x : qL × qL × Int) : Option (ByteArray × qL × Int) := (zdW N).d x
def zrs (N : Nat) : Ent qP := zK (zc qP) zf (zy1 N) 13 Tryz.f13 Tryz.func13 zu6 N [] (l := []) an (zdW N)
def zhe : Nat -> Keep × Keep := anL [(6, ⟨[0, 1, 4, 6, 7, 8], [], [0, 4, 6], [], [((4, 0), 1)], [], [], [], false, none, [((6, 0), 1)]⟩, ⟨[4, 6, 7], [], [0, 4, 6], [], [((4, 0), 1)], [], [], [], false, none, [((6, 0), 1)]⟩)]
def zuQ (N : Nat) : List (Ent qP) := [zdV N, zzi N, zrs N, zvf N, zvk N, zvp N, zvu N, zzl N]
def ZQ (N : Nat) : LSpec where
 X := Int × Int × Int × qL × Int × qL × qL
 Y := (Int × qL × Int × qL × qL)
 dt := .mk 111 1 (zhe 6).1.toks [(0, .ptr 0 0), (1, .int .i64), (4, .ptr 4 0), (6, .ptr 6 0), (7, .int .i64), (8, .int .i64)] [(0, .cells [.lst 1, .int .i64]), (4, .cells [.tok 1 6401048576]), (6, .cells [.lst 1])] rfl
 od := .mk 111 1 (zhe 6).2.toks [⟨.exit 0, [(4, .ptr 4 0), (6, .ptr 6 0), (7, .int .i64)], [(0, .cells [.lst 1, .int .i64]), (4, .cells [.tok 1 6401048576]), (6, .cells [.lst 1])], none⟩] rfl
 b := λ u6 α kn ke => (match (decide (u6.2.2.1 < u6.1)) with | true => (match zN N (50, u6.2.2.2.1, u6.2.2.2.2.1) with | some y19 => (match zN N ((if (u6.2.2.2.2.2.2.length : Int) > 1 then (u6.2.2.2.2.2.2.length : Int) else 1), y19.2) with | some y20 => (match zN N (8, y20.2) with | some y21 => (match (y21.1 == 0) with | true => (match ziM N (4, y21.2) with | some y22 => (match (decide ((y22.1.length : Int) > 0)) with | true => (match Ji N ([[(AV.v (.string (⟨#[97, 110, 110]⟩ : ByteArray)))], [(AV.v (.string (⟨#[98, 111, 98]⟩ : ByteArray)))]], y22.2) with | some y23 => (match zN N ((y22.1.length : Int), y23.2) with | some y24 => (if 0 <= y24.1 then (match y22.1[y24.1.toNat]? with | some c25 => (match zfZ c25 with | some e26 => (match zko N (u6.2.2.2.2.2.2, y20.1, y23.1, e26, (i64 (u6.2.1 + y19.1))) with | some y27 => (match (y27.2 == 0) with | true => (kn (u6.1, (i64 (u6.2.1 + y19.1)), (i64 (u6.2.2.1 + 1)), y24.2.1, y24.2.2, u6.2.2.2.2.2.1, y27.1)) | false => (kn (u6.1, (i64 (u6.2.1 + y19.1)), (i64 (u6.2.2.1 + 1)), y24.2.1, y24.2.2, u6.2.2.2.2.2))) | none => none) | none => none) | none => none) else none) | none => none) | none => none) | false => (match (0 == 0) with | true => (kn (u6.1, (i64 (u6.2.1 + y19.1)), (i64 (u6.2.2.1 + 1)), y22.2.1, y22.2.2, u6.2.2.2.2.2)) | false => (kn (u6.1, (i64 (u6.2.1 + y19.1)), (i64 (u6.2.2.1 + 1)), y22.2.1, y22.2.2, u6.2.2.2.2.2)))) | none => none) | false => (match (y21.1 == 1) with | true => (match Ji N ([[(AV.v (.string (⟨#[97, 110, 110]⟩ : ByteArray)))], [(AV.v (.string (⟨#[98, 111, 98]⟩ : ByteArray)))]], y21.2) with | some y28 => (match zkp N (u6.2.2.2.2.2.2, y20.1, y28.1, (i64 (u6.2.1 + y19.1))) with | some y29 => (match (y29.2 == 0) with | true => (kn (u6.1, (i64 (u6.2.1 + y19.1)), (i64 (u6.2.2.1 + 1)), y28.2.1, y28.2.2, u6.2.2.2.2.2.1, y29.1)) | false => (kn (u6.1, (i64 (u6.2.1 + y19.1)), (i64 (u6.2.2.1 + 1)), y28.2.1, y28.2.2, u6.2.2.2.2.2))) | none => none) | none => none) | false => (match (y21.1 == 2) with | true => (match zN N ((if (u6.2.2.2.2.2.2.length : Int) > 1 then (u6.2.2.2.2.2.2.length : Int) else 1), y21.2) with | some y30 => (match Ji N ([[(AV.v (.string (⟨#[97, 110, 110]⟩ : ByteArray)))], [(AV.v (.string (⟨#[98, 111, 98]⟩ : ByteArray)))]], y30.2) with | some y31 => (match zkq N (u6.2.2.2.2.2.2, y20.1, y30.1, y31.1, (i64 (u6.2.1 + y19.1))) with | some y32 => (match (y32.2 == 0) with | true => (kn (u6.1, (i64 (u6.2.1 + y19.1)), (i64 (u6.2.2.1 + 1)), y31.2.1, y31.2.2, u6.2.2.2.2.2.1, y32.1)) | false => (kn (u6.1, (i64 (u6.2.1 + y19.1)), (i64 (u6.2.2.1 + 1)), y31.2.1, y31.2.2, u6.2.2.2.2.2))) | none => none) | none => none) | none => none) | false => (match (y21.1 == 3) with | true => (match Ji N ([[(AV.v (.string (⟨#[97, 110, 110]⟩ : ByteArray)))], [(AV.v (.string (⟨#[98, 111, 98]⟩ : ByteArray)))]], y21.2) with | some y33 => (match zkr N (u6.2.2.2.2.2.2, y20.1, y33.1, (i64 (u6.2.1 + y19.1))) with | some y34 => (match (y34.2 == 0) with | true => (kn (u6.1, (i64 (u6.2.1 + y19.1)), (i64 (u6.2.2.1 + 1)), y33.2.1, y33.2.2, u6.2.2.2.2.2.1, y34.1)) | false => (kn (u6.1, (i64 (u6.2.1 + y19.1)), (i64 (u6.2.2.1 + 1)), y33.2.1, y33.2.2, u6.2.2.2.2.2))) | none => none) | none => none) | false => (match ziM N (4, y21.2) with | some y35 => (match zrP N (u6.2.2.2.2.2.2, y35.1, (i64 (u6.2.1 + y19.1))) with | some y36 => (match (y36.2.2 == 0) with | true => (kn (u6.1, (i64 (u6.2.1 + y19.1)), (i64 (u6.2.2.1 + 1)), y35.2.1, y35.2.2, u6.2.2.2.2.2.1, y36.1)) | false => (kn (u6.1, (i64 (u6.2.1 + y19.1)), (i64 (u6.2.2.1 + 1)), y35.2.1, y35.2.2, u6.2.2.2.2.2))) | none => none) | none => none))))) | none => none) | none => none) | none => none) | false => (ke (u6.2.1, u6.2.2.2)))
abbrev zpR (N : Nat) (x : Int × Int × Int × qL × Int × qL × qL) : Option ((Int × qL × Int × qL × qL)) := (ZQ N).L N x
def zrj (N : Nat) : FSpec where
 X := Int × qL × Int
 Y := qL × Int × qL × Int
 ad := .mk [.ptr 0 0, .int .i64] [.cells [.lst 1, .int .i64]] rfl
 bsh := [[some 1, none]]
 S := ⟨[[some 1], [none]], [[some 1, none]], [], [], []⟩
 ret := λ y => ⟨(AV.tup [(AV.agg [(AV.list 1 y.1 none)]), (AV.v (.int .i64 y.2.1))]), [[(AV.list 1 y.2.2.1 none), (AV.v (.int .i64 y.2.2.2))]], none, [], [], [], none⟩
 t := λ x α k => (match zpR N (x.1, 100, 0, x.2.1, x.2.2, ([] : qL), ([] : qL)) with | some y37 => (k (y37.2.2.2.2, y37.1, y37.2.1, y37.2.2.1)) | none => none)
abbrev zri (N : Nat) (x : Int × qL × Int) : Option (qL × Int × qL × Int) := (zrj N).d x
def zpS (N : Nat) : List (Nat × LSpec) := [(6, ZQ N)]
def zuP : Code := Tryz.f10.body.getD .skip
theorem zka (N : Nat) : Zb qP zhe N (zpS N) 6 (zb 6 zuP) :=
 zC (zc qP) zf (zuQ N) (l := []) an (ZQ N)
def zyY (N : Nat) : Ent qP := zK (zc qP) zf (zuQ N) 10 Tryz.f10 Tryz.func10 zhe N (zpS N) (l := [(6, zb 6 zuP)]) (al (zka N) an) (zrj N)
abbrev zAG : List Ck := [.sl 1]
abbrev zAH : Type := qL × Unit
def zxd (c : List AV) : Option zAH := dec zAG c
def zxc (e : zAH) : List AV := enc zAG e
theorem zn4 (e : zAH) : zxd (zxc e) = some e := zbA (ks := zAG) e rfl
end
end
section
theorem dF {p : Prop} [Decidable p] (h : ¬ p) : decide p = false := decide_eq_false h
theorem dT {p : Prop} [Decidable p] (h : p) : decide p = true := decide_eq_true h
theorem pS {d f : Nat} (h : d < f) : ∃ f', f = f' + 1 := ⟨f - 1, by omega⟩
def zk (xs : List Int) : List (List AV) := xs.map λ x => [I x]
theorem zG {x : Int} (h : -9223372036854775808 <= x /\ x <= 9223372036854775807) : i64 x = x := IntWalk.i64_in _ (by omega)
theorem JB (xs : List Int) : (zk xs).length = xs.length := by simp [zk]
theorem JA (xs : List Int) (k : Nat) (h : k < xs.length) : (zk xs)[k]? = some [I xs[k]] := by simp [zk, h]
structure Sc (xs : List Int) (p : Int) : Prop where
 l : xs.length <= 2000
 p0 : 0 <= p
 p1 : p <= xs.length
theorem zyc (N : Nat) {xs : List Int} {p : Int} (D : Sc xs p) : ∃ v p', zrU N (zk xs, p) = some (v, zk xs, p') /\ Sc xs p' := by
 obtain ⟨l, p0, p1⟩ := D
 simp only [zrU, FSpec.d, zrV]
 by_cases h : p >= ((zk xs).length : Int)
 ·simp only [h, decide_true]
  exact ⟨0, p, rfl, ⟨l, p0, p1⟩⟩
 ·have h0 := h
  rw [JB] at h0
  have h2 : p.toNat < xs.length := by omega
  have hp : i64 (p + 1) = p + 1 := zG (by omega)
  have hq : i64 (p + 1 - 1) = p := by rw [zG (by omega)]; omega
  simp only [h, decide_false, hp, hq, p0, if_true, JA xs _ h2, List.getElem?_cons_zero]
  exact ⟨_, _, rfl, ⟨l, by omega, by omega⟩⟩
theorem zxM (N : Nat) (v : Int) {n : Int} (hn : 1 <= n /\ n <= 1000000) : ∃ r, znD N (v, n) = some r /\ 0 <= r /\ r < n := by
 simp only [znD, FSpec.d, zrT]
 have h1 : ¬ n < 1 := by omega
 have h3 : ¬ n = 0 := by omega
 simp only [h1, decide_false, h3, if_false]
 by_cases hneg : v.tmod n < 0
 ·simp only [hneg, decide_true]
  have t1 : -n < v.tmod n := by
   have := Int.tmod_lt_of_pos (-v) (show 0 < n by omega)
   rw [Int.neg_tmod] at this
   omega
  rw [zG (by omega)]
  exact ⟨_, rfl, by omega, by omega⟩
 ·simp only [hneg, decide_false]
  have t1 := Int.tmod_lt_of_pos v (show 0 < n by omega)
  exact ⟨_, rfl, by omega, by omega⟩
theorem jV (N : Nat) {n : Int} {xs : List Int} {p : Int} (hn : 1 <= n /\ n <= 1000000) (D : Sc xs p) : ∃ v p', zN N (n, zk xs, p) = some (v, zk xs, p') /\ (0 <= v /\ v < n) /\ Sc xs p' := by
 obtain ⟨v, p', h1, h2⟩ := zyc N D
 obtain ⟨r, h3, h4⟩ := zxM N v hn
 refine ⟨r, p', ?_, h4, h2⟩
 simp only [zN, FSpec.d, zrq]
 simp only [h1, h3]
theorem zeC (N : Nat) (O : List Int) {xs : List Int} {p : Int} (hO : 1 <= O.length /\ O.length <= 1000) (D : Sc xs p) : ∃ v p', zcW N (zk O, zk xs, p) = some (v, zk xs, p') /\ v ∈ O /\ Sc xs p' := by
 simp only [zcW, FSpec.d, zrt]
 obtain ⟨v, p', h1, h2, h3⟩ := jV N (n := (O.length : Int)) (by omega) D
 rw [JB, h1]
 have h4 : v.toNat < O.length := by omega
 simp only [h2.1, if_true, JA O _ h4, List.getElem?_cons_zero]
 exact ⟨_, _, rfl, List.getElem_mem h4, h3⟩
theorem zxS (N : Nat) (xs : List Int) : zAB N (zk xs) = some (zk (xs.take 2000), 0) /\ Sc (xs.take 2000) 0 := by
 refine ⟨?_, ⟨by simp; omega, by omega, by omega⟩⟩
 simp only [zAB, FSpec.d, zAC, JB]
 by_cases h : 2000 < (xs.length : Int)
 ·have h2 : (0 <= (2000 : Int) /\ (2000 : Int) <= xs.length) := by omega
  simp only [h, if_true, h2, and_self]
  simp [zk]
 ·have h2 : (0 <= (xs.length : Int) /\ (xs.length : Int) <= xs.length) := by omega
  simp only [h, if_false, h2, and_self, if_true]
  rw [List.take_of_length_le (by rw [JB]; omega), List.take_of_length_le (by omega)]
section
variable {T : Type} (en : T -> List AV) (n : Nat) (hl : ∀ e, (en e).length = n)
def fl (L : List T) : List AV := (L.map en).flatten
include hl
theorem JV (L : List T) : (fl en L).length = L.length * n := by
 induction L with
 | nil => simp [fl]
 | cons a L ih =>
  show ((en a) ++ fl en L).length = _
  rw [List.length_append, ih, hl, List.length_cons, Nat.succ_mul, Nat.add_comm]
theorem zcu : ∀ (L : List T) (i j : Nat) (h : i < L.length), j <= n -> (fl en L).drop (i * n + j) = (en L[i]).drop j ++ fl en (L.drop (i + 1))
 | a :: L, 0, j, h, hj => by
  show ((en a) ++ fl en L).drop (0 * n + j) = _
  rw [Nat.zero_mul, Nat.zero_add, List.drop_append_of_le_length (by rw [hl]; exact hj)]
  rfl
 | a :: L, i + 1, j, h, hj => by
  show ((en a) ++ fl en L).drop ((i + 1) * n + j) = _
  have e : (i + 1) * n + j = (en a).length + (i * n + j) := by rw [hl, Nat.succ_mul]; omega
  rw [e, List.drop_append, List.drop_eq_nil_of_le (by omega), Nat.add_sub_cancel_left, List.nil_append, zcu L i j (by simpa using h) hj]
  rfl
theorem zmn (L : List T) (i j : Nat) (h : i < L.length) (hj : j < n) : (fl en L)[i * n + j]? = (en L[i])[j]? := by
 have := congrArg (λ l : List AV => l[0]?) (zcu en n hl L i j h (Nat.le_of_lt hj))
 simp only [List.getElem?_drop, Nat.add_zero] at this
 rw [this, List.getElem?_append_left (by rw [List.length_drop, hl]; omega)]
 simp
omit hl in
theorem zmm (L : List T) (a : T) : fl en L ++ en a = fl en (L ++ [a]) := by
 unfold fl
 rw [List.map_append, List.flatten_append]
 simp
theorem zes (L : List T) (k : Nat) (hk : k = L.length) : (fl en L).take (k * n) = fl en L := by
 rw [List.take_of_length_le]
 rw [JV en n hl, hk]
 exact Nat.le_refl _
omit hl in
theorem zqQ (hd : ∀ e, (en e).map dat0 = en e) (L : List T) : (fl en L).map dat0 = fl en L := by
 induction L with
 | nil => rfl
 | cons a L ih =>
  show ((en a) ++ fl en L).map dat0 = (en a) ++ fl en L
  rw [List.map_append, ih, hd]
theorem zdC (hd : ∀ e, (en e).map dat0 = en e) : ∀ L : List T, zo (fl en L) n L.length = L.map en
 | [] => rfl
 | a :: L => by
  show ((((en a) ++ fl en L).take n).map dat0) :: zo (((en a) ++ fl en L).drop n) n L.length = en a :: L.map en
  have e1 : ((en a) ++ fl en L).take n = en a := by rw [<- hl a, List.take_left]
  have e2 : ((en a) ++ fl en L).drop n = fl en L := by rw [<- hl a, List.drop_left]
  rw [e1, e2, hd, zdC hd L]
theorem zao (hd : ∀ e, (en e).map dat0 = en e) (L : List T) (k : Nat) (hk : k = L.length) : zo ((fl en L).take (k * n)) n k = L.map en := by
 rw [zes en n hl L k hk, hk, zdC en n hl hd L]
theorem zfn (L : List T) (i j : Nat) (h : i < L.length) (new : List AV) (b : T) (hb : splice (en L[i]) j new = en b) (hj : j + new.length <= n) : splice (fl en L) (i * n + j) new = fl en (L.set i b) := by
 have hlen : i * n + j + new.length <= (fl en L).length := by
  rw [JV en n hl]
  have : (i + 1) * n <= L.length * n := Nat.mul_le_mul_right n h
  rw [Nat.succ_mul] at this
  omega
 refine List.ext_getElem? λ k => ?_
 rw [jT new _ _ hlen]
 by_cases hn : n = 0
 ·have e1 : ∀ L' : List T, fl en L' = [] := λ L' => List.eq_nil_of_length_eq_zero (by rw [JV en n hl, hn, Nat.mul_zero])
  rw [e1, e1]
  have : ¬ (i * n + j <= k /\ k < i * n + j + new.length) := by omega
  rw [if_neg this]
 have hpos : 0 < n := Nat.pos_of_ne_zero hn
 by_cases hk : k < L.length * n
 ·obtain ⟨q, r, hq, hr, rfl⟩ : ∃ q r, q < L.length /\ r < n /\ k = q * n + r := ⟨k / n, k % n, (Nat.div_lt_iff_lt_mul hpos).2 hk, Nat.mod_lt _ hpos, by rw [Nat.mul_comm]; exact (Nat.div_add_mod k n).symm⟩
  rw [zmn en n hl L q r hq hr, zmn en n hl (L.set i b) q r (by simpa using hq) hr, List.getElem_set]
  by_cases e : i = q
  ·subst e
   simp only [if_true]
   rw [<- hb, jT new _ _ (by rw [hl]; exact hj)]
   have c : (i * n + j <= i * n + r /\ i * n + r < i * n + j + new.length) ↔ (j <= r /\ r < j + new.length) := by omega
   by_cases c2 : j <= r /\ r < j + new.length
   ·rw [if_pos (c.2 c2), if_pos c2]
    congr 1
    omega
   ·rw [if_neg (λ x => c2 (c.1 x)), if_neg c2]
  ·rw [if_neg e, if_neg]
   rintro ⟨c1, c2⟩
   rcases Nat.lt_or_gt_of_ne e with h1 | h1
   ·have : (i + 1) * n <= q * n := Nat.mul_le_mul_right n h1
    rw [Nat.succ_mul] at this
    omega
   ·have : (q + 1) * n <= i * n := Nat.mul_le_mul_right n h1
    rw [Nat.succ_mul] at this
    omega
 ·have e1 : (fl en L)[k]? = none := List.getElem?_eq_none (by rw [JV en n hl]; omega)
  have e2 : (fl en (L.set i b))[k]? = none := List.getElem?_eq_none (by rw [JV en n hl, List.length_set]; omega)
  have : ¬ (i * n + j <= k /\ k < i * n + j + new.length) := by
   rw [JV en n hl] at hlen
   omega
  rw [if_neg this, e1, e2]
end
end
section
@[reducible] def nmE (e : RT0) : RT1 := (e.1, e.2.1, e.2.2.1, e.2.2.2.1, e.2.2.2.2.1, e.2.2.2.2.2.1, e.2.2.2.2.2.2.1, e.2.2.2.2.2.2.2.1, e.2.2.2.2.2.2.2.2.1, ())
@[reducible] def pkE (e : RT0) : List (List AV) := e.2.2.2.2.2.2.2.2.2.1
@[reducible] def loE (e : RT0) : Int := e.2.2.2.2.2.2.2.2.2.2.2.2.2.2.2.2.2.2.2.2.2.2.1
@[reducible] def hiE (e : RT0) : Int := e.2.2.2.2.2.2.2.2.2.2.2.2.2.2.2.2.2.2.2.2.2.2.2.1
def z10 (c : Nat) : zxa := ((⟨#[]⟩ : ByteArray), (⟨#[]⟩ : ByteArray), (⟨#[]⟩ : ByteArray), (⟨#[]⟩ : ByteArray), 0, 0, 0, 0, 0, c, 0, 0, 0, 0, 0, 0, 0, 0, 0, 0, 0, 0, 0, 0, 0, ())
def z8 : RT8 := ((⟨#[]⟩ : ByteArray), (⟨#[]⟩ : ByteArray), (⟨#[]⟩ : ByteArray), (⟨#[]⟩ : ByteArray), 0, 0, 0, 0, 0, ([] : List (List AV)), 0, 0, 0, 0, 0, 0, 0, 0, 0, 0, 0, 0, 0, 0, 0, ())
def AB : ByteArray := ⟨#[65, 66]⟩
def LC : ByteArray := ⟨#[48, 48]⟩
def CH : ByteArray := ⟨#[66, 72, 90]⟩
def st : Nat -> ByteArray
 | 0 => ⟨#[83, 49]⟩
 | 1 => ⟨#[83, 50]⟩
 | 2 => ⟨#[83, 51]⟩
 | _ => ⟨#[83, 52]⟩
theorem zq3 (k : Nat) (h : k < 4) : znE 600 (k : Int) = some (AB, st k, LC, CH, ()) := by
 rcases (show k = 0 \/ k = 1 \/ k = 2 \/ k = 3 by omega) with rfl | rfl | rfl | rfl <;> kernel_rfl
theorem zim {xs : List Int} {p : Int} (D : Sc xs p) : ∃ x y z p', znF 600 (20, zk xs, p) = some (x, y, z, zk xs, p') /\ Sc xs p' := by
 obtain ⟨v1, p1, h1, m1, D1⟩ := jV 600 (n := 41) (by omega) D
 obtain ⟨v2, p2, h2, m2, D2⟩ := jV 600 (n := 41) (by omega) D1
 obtain ⟨v3, p3, h3, m3, D3⟩ := jV 600 (n := 21) (by omega) D2
 simp only [znF, FSpec.d, zrX]
 have e1 : i64 (i64 (2 * 20) + 1) = 41 := by decide
 have e2 : i64 (20 + 1) = 21 := by decide
 simp only [e1, e2, h1, h2, h3]
 exact ⟨_, _, _, _, rfl, D3⟩
def zgr (k : Nat) (p : RT1) : Prop := p.1 = AB /\ p.2.1 = st k /\ p.2.2.1 = LC /\ p.2.2.2.1 = CH /\ p.2.2.2.2.2.2.2.2.1 = 0
theorem fl1 (L : List RT1) : (fl zj L).map dat0 = fl zj L := zqQ zj (λ _ => rfl) L
theorem fl0 (L : List RT0) : (fl zu L).map dat0 = fl zu L := zqQ zu (λ _ => rfl) L
theorem zjq (L : List RT1) : (fl zj L).length = L.length * 9 := JV zj 9 Zp L
theorem zBB (L : List RT0) : (fl zu L).length = L.length * 25 := JV zu 25 zbv L
theorem app1 (L : List RT1) (a : RT1) (k : Nat) (hk : k = L.length) : (fl zj L).take (k * 9) ++ [zj a].flatten = fl zj (L ++ [a]) := by
 rw [zes zj 9 Zp L k hk, <- zmm]; simp
theorem app0 (L : List RT0) (a : RT0) (k : Nat) (hk : k = L.length) : (fl zu L).take (k * 25) ++ [zu a].flatten = fl zu (L ++ [a]) := by
 rw [zes zu 25 zbv L k hk, <- zmm]; simp
theorem zta (t : Int) {xs : List Int} (ht : 0 <= t /\ t <= 100000) : ∀ (m k f : Nat) (p : Int) (L : List RT1), k + m = 4 -> m < f -> Sc xs p -> L.length = k -> (∀ i (h : i < L.length), zgr i L[i]) ->
  ∃ (L' : List RT1) (p' : Int), (Zu 600).L f (1, t, (k : Int), zk xs, p, z8, z10 k, fl zj L) = some (t, zk xs, p', z8, z10 L'.length, fl zj L') /\ (1 <= L'.length /\ L'.length <= 4) /\ (∀ i (h : i < L'.length), zgr i L'[i]) /\ Sc xs p' := by
 intro m
 induction m with
 | zero =>
  intro k f p L hk hf D hl hL
  obtain ⟨f, rfl⟩ := pS hf
  obtain ⟨v, p1, h1, m1, D1⟩ := jV 600 (n := 4) (by omega) D
  refine ⟨L, p1, ?_, by omega, hL, D1⟩
  show (Zu 600).b _ _ ((Zu 600).L f) some = _
  simp only [Zu]
  have e1 : i64 (1 + v) = 1 + v := zG (by omega)
  have e2 : decide ((k : Int) < 1 + v) = false := dF (by omega)
  simp only [h1, e1, e2, fl1, hl]
 | succ m ih =>
  intro k f p L hk hf D hl hL
  obtain ⟨f, rfl⟩ := pS hf
  obtain ⟨v, p1, h1, m1, D1⟩ := jV 600 (n := 4) (by omega) D
  have e1 : i64 (1 + v) = 1 + v := zG (by omega)
  by_cases hc : (k : Int) < 1 + v
  ·obtain ⟨u, p2, h2, m2, D2⟩ := jV 600 (n := 3) (by omega) D1
   have hs := zq3 k (by omega)
   obtain ⟨q, hq⟩ : ∃ q : RT1, q = (AB, st k, LC, CH, t + 10, t + 10, t + 10 + u, 1, 0, ()) := ⟨_, rfl⟩
   have hfin : ∀ i (h : i < (L ++ [q]).length), zgr i (L ++ [q])[i] := λ i h => by
    rw [List.getElem_append]
    split
    ·exact hL i _
    ·simp at h
     obtain rfl : i = k := by omega
     simp [hl, hq, zgr]
   obtain ⟨L', p', r1, r2, r3, r4⟩ := ih (k + 1) f p2 (L ++ [q]) (by omega) (by omega) D2 (by simp [hl]) hfin
   refine ⟨L', p', ?_, r2, r3, r4⟩
   show (Zu 600).b _ _ ((Zu 600).L f) some = _
   generalize (Zu 600).L f = Lf at r1 |-
   simp only [Zu]
   have e2 : decide ((k : Int) < 1 + v) = true := dT (by omega)
   have e3 : i64 (10 * 1) = 10 := by decide
   have e4 : i64 (t + 10) = t + 10 := zG (by omega)
   have e5 : i64 (t + 10 + u) = t + 10 + u := zG (by omega)
   have e6 : i64 ((k : Int) + 1) = ((k + 1 : Nat) : Int) := by rw [zG (by omega)]; omega
   have hb : ((z10 k).2.2.2.2.2.2.2.2.2.1 * 9 <= (fl zj L).length /\ ((z10 k).2.2.2.2.2.2.2.2.2.1 + [zj q].length) * 104 <= ze) := by
    rw [zjq]; unfold ze z10; simp; omega
   simp only [h1, e1, e2, hs, h2, e3, e4, e5, e6, <- hq, hb, if_true, and_self]
   rw [app1 L q _ (show (z10 k).2.2.2.2.2.2.2.2.2.1 = _ from hl.symm), fl1]
   exact r1
  ·refine ⟨L, p1, ?_, by omega, hL, D1⟩
   show (Zu 600).b _ _ ((Zu 600).L f) some = _
   simp only [Zu]
   have e2 : decide ((k : Int) < 1 + v) = false := dF (by omega)
   simp only [h1, e1, e2, fl1, hl]
theorem zA1 {xs : List Int} {p : Int} (D : Sc xs p) : ∃ (e : zxb) (L : List RT1) (p' : Int), zkk 600 (1, zk xs, p) = some (e, zk xs, p', fl zj L) /\ e.2.2.2.2.2.2.2.2.2.1 = L.length /\ (1 <= L.length /\ L.length <= 4) /\ (∀ i (h : i < L.length), zgr i L[i]) /\ e.2.2.2.2.2.2.2.2.2.2.2.2.2.2.2.2.2.2.2.2.2.2.1 <= e.2.2.2.2.2.2.2.2.2.2.2.2.2.2.2.2.2.2.2.2.2.2.2.1 /\ Sc xs p' := by
 obtain ⟨v, p1, h1, m1, D1⟩ := jV 600 (n := 300) (by omega) D
 have e1 : i64 (1000 + v) = 1000 + v := zG (by omega)
 obtain ⟨L, p2, h2, hl, hL, D2⟩ := zta (1000 + v) (by omega) 4 0 600 p1 [] rfl (by omega) D1 rfl (λ i h => by cases h)
 obtain ⟨x, y, z, p3, h3, D3⟩ := zim D2
 obtain ⟨u4, p4, h4, m4, D4⟩ := jV 600 (n := 40) (by omega) D3
 obtain ⟨u5, p5, h5, m5, D5⟩ := zeC 600 [0, 0, 5, 500] (by simp) D4
 replace h5 : zcW 600 ([[AV.v (.int .i64 0)], [AV.v (.int .i64 0)], [AV.v (.int .i64 5)], [AV.v (.int .i64 500)]], zk xs, p4) = some (u5, zk xs, p5) := h5
 obtain ⟨u6, p6, h6, m6, D6⟩ := jV 600 (n := 3) (by omega) D5
 replace h2 : (Zu 600).L 600 (1, 1000 + v, 0, zk xs, p1, z8, z10 0, []) = some (1000 + v, zk xs, p2, z8, z10 L.length, fl zj L) := h2
 unfold z8 z10 at h2
 simp only [zkk, FSpec.d, zkn]
 have hd : (fl zj L).drop ((0 + Int.toNat 0) * 9) = zj L[0] ++ fl zj (L.drop 1) := zcu zj 9 Zp L 0 0 (by omega) (by omega)
 have hz : (0 <= (0 : Int) /\ (0 : Int) < (L.length : Int)) := by omega
 simp only [h1, e1, zkl, h2, hz, and_self, if_true, hd, zbw, h3, h4, h5, h6]
 by_cases hc : u6 > 0
 ·obtain ⟨u7, p7, h7, m7, D7⟩ := jV 600 (n := 400) (by omega) D6
  obtain ⟨u8, p8, h8, m8, D8⟩ := jV 600 (n := 60) (by omega) D7
  simp only [hc, decide_true, h7, h8, fl1]
  have e9 : i64 (u7 + u8) = u7 + u8 := zG (by omega)
  simp only [e9]
  exact ⟨_, _, _, rfl, rfl, hl, hL, by dsimp only; omega, D8⟩
 ·simp only [hc, decide_false, fl1]
  exact ⟨_, _, _, rfl, rfl, hl, hL, Int.le_refl 0, D6⟩
def pick (n i : Nat) : RT1 := (AB, st i, LC, CH, 1000 + 400 * n + i, 1000 + 400 * n + i, 1000 + 400 * n + i + 2, 7, 0, ())
def pks (n f c : Nat) : List RT1 := (List.range' f (c - f)).map (pick n)
theorem jH (n f c : Nat) : (pks n f c).length = c - f := by simp [pks]
theorem zoV (n i : Nat) : zgr i (pick n i) := ⟨rfl, rfl, rfl, rfl, rfl⟩
theorem zeI (L : List RT1) (k j : Nat) (hk : k < L.length) (hj : j < 9) (a : AV) (b : RT1) (hb : splice (zj L[k]) j [a] = zj b) : splice (fl zj L) ((0 + ((k : Int)).toNat) * 9 + j) [a] = fl zj (L.set k b) := by
 rw [Nat.zero_add, Int.toNat_natCast]
 exact zfn zj 9 Zp L k j hk [a] b hb (by simp; omega)
theorem zpz (m : Int) (cnt n : Nat) (e : zxb) (ob : List AV) (hob : ob.map dat0 = ob) {xs : List Int} (hn : n <= 100) : ∀ (d k f : Nat) (p : Int) (L : List RT1), k + d = L.length -> d < f -> L.length <= 4 -> e.2.2.2.2.2.2.2.2.2.1 = L.length -> (∀ i (h : i < L.length), zgr i L[i]) -> (∀ i (h : i < L.length), i < k -> L[i] = pick n i) ->
  (Z3 600).L f (m, cnt, (n : Int), (L.length : Int), (k : Int), zk xs, p, e, fl zj L, ob) = some (m, cnt, (n : Int), zk xs, p, e, fl zj (pks n 0 L.length), ob) := by
 intro d
 induction d with
 | zero =>
  intro k f p L hk hf hL he hO hP
  obtain ⟨f, rfl⟩ := pS hf
  show (Z3 600).b _ _ ((Z3 600).L f) some = _
  simp only [Z3]
  have e2 : decide ((k : Int) < L.length) = false := dF (by omega)
  have e3 : L = pks n 0 L.length := by
   refine List.ext_getElem (by simp [pks]) λ i h1 h2 => ?_
   rw [hP i h1 (by omega)]
   simp [pks]
  simp only [e2, fl1, hob]
  rw [<- e3]
 | succ d ih =>
  intro k f p L hk hf hL he hO hP
  obtain ⟨f, rfl⟩ := pS hf
  have hkl : k < L.length := by omega
  obtain ⟨o1, o2, o3, o4, o5⟩ := hO k hkl
  obtain ⟨q, hq⟩ : ∃ q, L[k] = q := ⟨_, rfl⟩
  rw [hq] at o1 o2 o3 o4 o5
  obtain ⟨q1, q2, q3, q4, q5, q6, q7, q8, q9, _⟩ := q
  subst o1 o2 o3 o4 o5
  have ih' := ih (k + 1) f p (L.set k (pick n k)) (by simp; omega) (by omega) (by simpa using hL) (by simpa using he) (λ i h => by
   rw [List.getElem_set]
   split
   ·rename_i e; subst e; exact zoV n _
   ·exact hO i (by simpa using h)) (λ i h hi => by
   rw [List.getElem_set]
   split
   ·rename_i e; subst e; rfl
   ·exact hP i (by simpa using h) (by omega))
  rw [List.length_set] at ih'
  show (Z3 600).b _ _ ((Z3 600).L f) some = _
  obtain ⟨Lf, hLf⟩ : ∃ Lf, Lf = (Z3 600).L f := ⟨_, rfl⟩
  rw [<- hLf] at ih' |-
  simp only [Z3]
  have e2 : decide ((k : Int) < L.length) = true := dT (by omega)
  have e3 : i64 (400 * (n : Int)) = 400 * n := zG (by omega)
  have e4 : i64 (1000 + 400 * (n : Int)) = 1000 + 400 * n := zG (by omega)
  have e5 : i64 (1000 + 400 * (n : Int) + k) = 1000 + 400 * n + k := zG (by omega)
  have e6 : i64 (1000 + 400 * (n : Int) + k + 2) = 1000 + 400 * n + k + 2 := zG (by omega)
  have e7 : i64 ((k : Int) + 1) = ((k + 1 : Nat) : Int) := by rw [zG (by omega)]; omega
  have hz : (0 <= (k : Int) /\ (k : Int) < (L.length : Int)) := by omega
  have s1 := zeI L k 4 hkl (by omega) (AV.v (.int .i64 (1000 + 400 * n + k))) (AB, st k, LC, CH, 1000 + 400 * n + k, q6, q7, q8, 0, ()) (by rw [hq]; rfl)
  have s2 := zeI (L.set k (AB, st k, LC, CH, 1000 + 400 * n + k, q6, q7, q8, 0, ())) k 5 (by simpa using hkl) (by omega) (AV.v (.int .i64 (1000 + 400 * n + k))) (AB, st k, LC, CH, 1000 + 400 * n + k, 1000 + 400 * n + k, q7, q8, 0, ()) (by rw [List.getElem_set_self]; rfl)
  have s3 := zeI (L.set k (AB, st k, LC, CH, 1000 + 400 * n + k, 1000 + 400 * n + k, q7, q8, 0, ())) k 6 (by simpa using hkl) (by omega) (AV.v (.int .i64 (1000 + 400 * n + k + 2))) (AB, st k, LC, CH, 1000 + 400 * n + k, 1000 + 400 * n + k, 1000 + 400 * n + k + 2, q8, 0, ()) (by rw [List.getElem_set_self]; rfl)
  have s4 := zeI (L.set k (AB, st k, LC, CH, 1000 + 400 * n + k, 1000 + 400 * n + k, 1000 + 400 * n + k + 2, q8, 0, ())) k 7 (by simpa using hkl) (by omega) (AV.v (.int .i64 7)) (pick n k) (by rw [List.getElem_set_self]; rfl)
  rw [List.set_set] at s2 s3 s4
  have g : ∀ (L' : List RT1) (j : Nat), L'.length = L.length -> j < 9 -> (0 + ((k : Int)).toNat) * 9 + j + 1 <= (fl zj L').length := λ L' j h1 h2 => by
   rw [zjq, h1, Nat.zero_add, Int.toNat_natCast]; omega
  simp only [e2, e3, e4, e5, e6, e7, he, hz, and_self, if_true, s1, s2, s3, s4, g L 4 rfl (by omega), g _ 5 (List.length_set) (by omega), g _ 6 (List.length_set) (by omega), g _ 7 (List.length_set) (by omega), fl1, hob]
  exact ih'
def EvAt (n : Nat) (e : RT0) : Prop := ∃ f c, f < c /\ c <= 4 /\ f <= 1 /\ nmE e = pick n f /\ pkE e = (pks n f c).map zj /\ loE e <= hiE e
def Evs (lo hi : Nat) : List RT0 -> Prop
 | [] => lo <= hi
 | e :: r => ∃ n, lo <= n /\ EvAt n e /\ Evs (n + 1) hi r
theorem Evs.mono : ∀ {L : List RT0} {lo hi hi' : Nat}, Evs lo hi L -> hi <= hi' -> Evs lo hi' L
 | [], lo, hi, hi', h, hh => Nat.le_trans h hh
 | e :: r, lo, hi, hi', h, hh => by
  obtain ⟨n, h1, h2, h3⟩ := h
  exact ⟨n, h1, h2, h3.mono hh⟩
theorem Evs.snoc : ∀ {L : List RT0} {lo n : Nat} {e : RT0}, Evs lo n L -> EvAt n e -> Evs lo (n + 1) (L ++ [e])
 | [], lo, n, e, h, he => ⟨n, h, he, Nat.le_refl _⟩
 | a :: r, lo, n, e, h, he => by
  obtain ⟨m, h1, h2, h3⟩ := h
  exact ⟨m, h1, h2, h3.snoc he⟩
theorem zhW (n r c : Nat) (h : r <= c) : (fl zj (pks n 0 c)).drop (r * 9) = fl zj (pks n r c) := by
 have e : pks n 0 c = pks n 0 r ++ pks n r c := by
  unfold pks
  rw [<- List.map_append, Nat.sub_zero, Nat.sub_zero]
  congr 1
  rw [show c = r + (c - r) by omega, <- List.range'_append_1]
  simp
 rw [e]
 unfold fl
 rw [List.map_append, List.flatten_append]
 have := zjq (pks n 0 r)
 unfold fl at this
 rw [jH, Nat.sub_zero] at this
 rw [<- this, List.drop_left]
theorem zoC (m : Nat) {xs : List Int} (hm : m <= 20) : ∀ (d n f : Nat) (p : Int) (A : List RT0), n + d = m -> d < f -> Sc xs p -> A.length <= n -> Evs 0 n A ->
  ∃ (A' : List RT0) (p' : Int), (ja 600).L f (A.length, (m : Int), (n : Int), zk xs, p, fl zu A) = some (A'.length, zk xs, p', fl zu A') /\ A'.length <= m /\ Evs 0 m A' /\ Sc xs p' := by
 intro d
 induction d with
 | zero =>
  intro n f p A hk hf D hA hE
  obtain ⟨f, rfl⟩ := pS hf
  refine ⟨A, p, ?_, by omega, by rw [<- hk]; exact hE, D⟩
  show (ja 600).b _ _ ((ja 600).L f) some = _
  simp only [ja]
  have e2 : decide ((n : Int) < (m : Int)) = false := dF (by omega)
  simp only [e2, fl0]
 | succ d ih =>
  intro n f p A hk hf D hA hE
  obtain ⟨f, rfl⟩ := pS hf
  have e2 : decide ((n : Int) < (m : Int)) = true := dT (by omega)
  have e7 : i64 ((n : Int) + 1) = ((n + 1 : Nat) : Int) := by rw [zG (by omega)]; omega
  obtain ⟨v, p1, h1, m1, D1⟩ := jV 600 (n := 3) (by omega) D
  by_cases hv : v = 0
  ·obtain ⟨A', p', r1, r2, r3, r4⟩ := ih (n + 1) f p1 A (by omega) (by omega) D1 (by omega) (hE.mono (by omega))
   refine ⟨A', p', ?_, r2, r3, r4⟩
   show (ja 600).b _ _ ((ja 600).L f) some = _
   generalize (ja 600).L f = Lf at r1 |-
   simp only [ja]
   have e3 : (v == 0) = true := by simp [hv]
   simp only [e2, h1, e3, e7, fl0]
   exact r1
  ·have e3 : (v == 0) = false := by simp [hv]
   obtain ⟨e, L, p2, h2, hl, hl2, hL, hlo, D2⟩ := zA1 D1
   have h3 := zpz (m : Int) A.length n e (fl zu A) (fl0 A) (xs := xs) (by omega) L.length 0 600 p2 L (by omega) (by omega) (by omega) hl hL (λ i h hi => by omega)
   replace h3 : (Z3 600).L 600 ((m : Int), A.length, (n : Int), (L.length : Int), 0, zk xs, p2, e, fl zj L, fl zu A) = some ((m : Int), A.length, (n : Int), zk xs, p2, e, fl zj (pks n 0 L.length), fl zu A) := h3
   obtain ⟨w, p3, h4, m4, D3⟩ := jV 600 (n := 2) (by omega) D2
   have e4 : i64 (((L.length : Nat) : Int) - 1) = ((L.length - 1 : Nat) : Int) := by rw [zG (by omega)]; omega
   obtain ⟨r, hr⟩ : ∃ r : Nat, (if ((L.length - 1 : Nat) : Int) < w then ((L.length - 1 : Nat) : Int) else w) = (r : Int) /\ r <= 1 /\ r < L.length := by
    by_cases hc : ((L.length - 1 : Nat) : Int) < w
    ·exact ⟨L.length - 1, by rw [if_pos hc], by omega, by omega⟩
    ·exact ⟨w.toNat, by rw [if_neg hc]; omega, by omega, by omega⟩
   obtain ⟨hr, hr1, hr2⟩ := hr
   obtain ⟨q, hq⟩ : ∃ q : RT0, q = ((pick n r).1, (pick n r).2.1, (pick n r).2.2.1, (pick n r).2.2.2.1, (pick n r).2.2.2.2.1, (pick n r).2.2.2.2.2.1, (pick n r).2.2.2.2.2.2.1, (pick n r).2.2.2.2.2.2.2.1, (pick n r).2.2.2.2.2.2.2.2.1, (pks n r L.length).map zj, e.2.2.2.2.2.2.2.2.2.2) := ⟨_, rfl⟩
   have hqe : EvAt n q := ⟨r, L.length, hr2, hl2.2, hr1, by rw [hq], by rw [hq], by rw [hq]; exact hlo⟩
   obtain ⟨A', p', r1, r2, r3, r4⟩ := ih (n + 1) f p3 (A ++ [q]) (by omega) (by omega) D3 (by simp; omega) (hE.snoc hqe)
   refine ⟨A', p', ?_, r2, r3, r4⟩
   show (ja 600).b _ _ ((ja 600).L f) some = _
   generalize (ja 600).L f = Lf at r1 |-
   rw [List.length_append] at r1
   simp only [ja]
   have hz1 : (0 <= (r : Int) /\ (r : Int) <= (L.length : Int)) := by omega
   have hz2 : (0 <= (0 : Int) /\ (0 : Int) < ((L.length - r : Nat) : Int)) := by omega
   have hd1 : (fl zj (pks n 0 L.length)).drop ((0 + r + Int.toNat 0) * 9) = zj (pick n r) ++ fl zj (pks n (r + 1) L.length) := by
    rw [show (0 + r + Int.toNat 0) * 9 = r * 9 by simp, zhW n r _ (by omega)]
    have : pks n r L.length = pick n r :: pks n (r + 1) L.length := by
     unfold pks
     rw [show L.length - r = (L.length - (r + 1)) + 1 by omega, List.range'_succ]
     rfl
    rw [this]
    rfl
   have hd2 : ZM (0 + r) 9 (fl zj (pks n 0 L.length)) = fl zj (pks n r L.length) := by
    rw [zem, Nat.zero_add, zhW n r _ (by omega)]
   have hg1 : (L.length - r) * 9 <= (fl zj (pks n r L.length)).length := by rw [zjq, jH]; omega
   have hch : zo ((fl zj (pks n r L.length)).take ((L.length - r) * 9)) 9 (L.length - r) = (pks n r L.length).map zj := zao zj 9 Zp (λ _ => rfl) _ _ (by rw [jH])
   have hg2 : (A.length * 25 <= (fl zu A).length /\ (A.length + [zu q].length) * 248 <= ze) := by
    rw [zBB]; unfold ze; simp; omega
   simp only [e2, h1, e3, h2, hl, fl1, fl0, h3, h4, e4, hr, hz1, Int.toNat_natCast, hz2, and_self, if_true, hd1, zbw, hd2, hg1, hch]
   simp only [<- hq, hg2, and_self, if_true, e7]
   rw [app0 A q _ rfl, fl0]
   exact r1
theorem zqO (m : Nat) (hm : m <= 20) {xs : List Int} {p : Int} (D : Sc xs p) : ∃ (A : List RT0) (p' : Int), ziM 600 ((m : Int), zk xs, p) = some (A.map zu, zk xs, p') /\ A.length <= m /\ Evs 0 m A /\ Sc xs p' := by
 obtain ⟨A, p', h1, h2, h3, h4⟩ := zoC m hm m 0 600 p [] (by omega) (by omega) D (by simp) (Nat.le_refl 0)
 refine ⟨A, p', ?_, h2, h3, h4⟩
 replace h1 : (ja 600).L 600 (0, (m : Int), 0, zk xs, p, []) = some (A.length, zk xs, p', fl zu A) := h1
 simp only [ziM, FSpec.d, zrJ, zp3, h1]
 have hg : A.length * 25 <= (fl zu A).length := by rw [zBB]; exact Nat.le_refl _
 simp only [hg, if_true, zao zu 25 zbv (λ _ => rfl) A _ rfl]
end
section
@[reducible] def eqP (a b : RT1) : Bool := (((a.1 == b.1) && ((a.2.1 == b.2.1) && ((a.2.2.1 == b.2.2.1) && ((a.2.2.2.1 == b.2.2.2.1) && true)))) && ((a.2.2.2.2.1 == b.2.2.2.2.1) && ((a.2.2.2.2.2.1 == b.2.2.2.2.2.1) && ((a.2.2.2.2.2.2.1 == b.2.2.2.2.2.2.1) && ((a.2.2.2.2.2.2.2.1 == b.2.2.2.2.2.2.2.1) && ((a.2.2.2.2.2.2.2.2.1 == b.2.2.2.2.2.2.2.2.1) && true))))))
theorem ze9 {a b : ByteArray} : (a == b) = true ↔ a = b := by
 constructor
 ·intro h
  obtain ⟨x⟩ := a
  obtain ⟨y⟩ := b
  have : (x == y) = true := h
  rw [eq_of_beq this]
 ·rintro rfl
  obtain ⟨x⟩ := a
  exact beq_self_eq_true x
theorem JU (a : RT1) : eqP a a = true := by
 simp only [eqP, Bool.and_eq_true, beq_self_eq_true, ze9, and_self]
theorem zxx {a b : RT1} (h : eqP a b = true) : a = b := by
 obtain ⟨a1, a2, a3, a4, a5, a6, a7, a8, a9, a10⟩ := a
 obtain ⟨b1, b2, b3, b4, b5, b6, b7, b8, b9, b10⟩ := b
 simp only [eqP, Bool.and_eq_true, beq_iff_eq, ze9] at h
 obtain ⟨⟨h1, h2, h3, h4, -⟩, h5, h6, h7, h8, h9, -⟩ := h
 subst h1 h2 h3 h4 h5 h6 h7 h8 h9
 rfl
theorem zan {a b : RT1} (h : a ≠ b) : eqP a b = false := by
 cases e : eqP a b with
 | false => rfl
 | true => exact absurd (zxx e) h
theorem zaC (P : List RT1) (k : Nat) (h : k < P.length) : (P.map zj)[k]? = some (zj P[k]) := by simp [h]
theorem zjl (P : List RT0) (k : Nat) (h : k < P.length) : (P.map zu)[k]? = some (zu P[k]) := by simp [h]
theorem zw {α : Type} {P : List α} {k : Nat} (h : k < P.length) (p : α) : p ∈ P.drop k ↔ p = P[k] \/ p ∈ P.drop (k + 1) := by
 rw [List.drop_eq_getElem_cons h, List.mem_cons]
theorem zi {k : Nat} (h : k < 1000000) : i64 ((k : Int) + 1) = ((k + 1 : Nat) : Int) := by rw [zG (by omega)]; omega
def Com (P Q : List RT1) : Prop := ∃ p ∈ P, p ∈ Q
end
section
theorem nm0 (e : RT0) : jI ((zu e).drop 0) = some (nmE e) := rfl
theorem zm7 (n f c : Nat) (hn : n < 5) (h1 : f < c) (h2 : c <= 4) (h3 : f <= 1) : znY 600 ((pks n f c).map zj) = some true := by
 rcases (show n = 0 \/ n = 1 \/ n = 2 \/ n = 3 \/ n = 4 by omega) with rfl | rfl | rfl | rfl | rfl <;> rcases (show (f = 0 /\ c = 1) \/ (f = 0 /\ c = 2) \/ (f = 0 /\ c = 3) \/ (f = 0 /\ c = 4) \/ (f = 1 /\ c = 2) \/ (f = 1 /\ c = 3) \/ (f = 1 /\ c = 4) by omega) with ⟨rfl, rfl⟩ | ⟨rfl, rfl⟩ | ⟨rfl, rfl⟩ | ⟨rfl, rfl⟩ | ⟨rfl, rfl⟩ | ⟨rfl, rfl⟩ | ⟨rfl, rfl⟩ <;> kernel_rfl
theorem ztq (n f c : Nat) (hn : n < 5) (h1 : f < c) (h2 : c <= 4) (h3 : f <= 1) : znZ 600 ((pks n f c).map zj) = some (pick n f) := by
 rcases (show n = 0 \/ n = 1 \/ n = 2 \/ n = 3 \/ n = 4 by omega) with rfl | rfl | rfl | rfl | rfl <;> rcases (show (f = 0 /\ c = 1) \/ (f = 0 /\ c = 2) \/ (f = 0 /\ c = 3) \/ (f = 0 /\ c = 4) \/ (f = 1 /\ c = 2) \/ (f = 1 /\ c = 3) \/ (f = 1 /\ c = 4) by omega) with ⟨rfl, rfl⟩ | ⟨rfl, rfl⟩ | ⟨rfl, rfl⟩ | ⟨rfl, rfl⟩ | ⟨rfl, rfl⟩ | ⟨rfl, rfl⟩ | ⟨rfl, rfl⟩ <;> kernel_rfl
theorem zpg (n f c : Nat) (hn : n < 5) (h1 : f < c) (h2 : c <= 4) (h3 : f <= 1) : znS 600 ((pks n f c).map zj) = some (pick n f) := by
 rcases (show n = 0 \/ n = 1 \/ n = 2 \/ n = 3 \/ n = 4 by omega) with rfl | rfl | rfl | rfl | rfl <;> rcases (show (f = 0 /\ c = 1) \/ (f = 0 /\ c = 2) \/ (f = 0 /\ c = 3) \/ (f = 0 /\ c = 4) \/ (f = 1 /\ c = 2) \/ (f = 1 /\ c = 3) \/ (f = 1 /\ c = 4) by omega) with ⟨rfl, rfl⟩ | ⟨rfl, rfl⟩ | ⟨rfl, rfl⟩ | ⟨rfl, rfl⟩ | ⟨rfl, rfl⟩ | ⟨rfl, rfl⟩ | ⟨rfl, rfl⟩ <;> kernel_rfl
theorem zpj (n f c : Nat) (hn : n < 5) (h1 : f < c) (h2 : c <= 4) (h3 : f <= 1) : znT 600 ((pks n f c).map zj) = some ((pks n f c).map zj) := by
 rcases (show n = 0 \/ n = 1 \/ n = 2 \/ n = 3 \/ n = 4 by omega) with rfl | rfl | rfl | rfl | rfl <;> rcases (show (f = 0 /\ c = 1) \/ (f = 0 /\ c = 2) \/ (f = 0 /\ c = 3) \/ (f = 0 /\ c = 4) \/ (f = 1 /\ c = 2) \/ (f = 1 /\ c = 3) \/ (f = 1 /\ c = 4) by omega) with ⟨rfl, rfl⟩ | ⟨rfl, rfl⟩ | ⟨rfl, rfl⟩ | ⟨rfl, rfl⟩ | ⟨rfl, rfl⟩ | ⟨rfl, rfl⟩ | ⟨rfl, rfl⟩ <;> kernel_rfl
theorem zpi (n f c : Nat) (hn : n < 5) (h1 : f < c) (h2 : c <= 4) (h3 : f <= 1) : zgh 600 ((pks n f c).map zj, (pks n f c).map zj) = some true := by
 rcases (show n = 0 \/ n = 1 \/ n = 2 \/ n = 3 \/ n = 4 by omega) with rfl | rfl | rfl | rfl | rfl <;> rcases (show (f = 0 /\ c = 1) \/ (f = 0 /\ c = 2) \/ (f = 0 /\ c = 3) \/ (f = 0 /\ c = 4) \/ (f = 1 /\ c = 2) \/ (f = 1 /\ c = 3) \/ (f = 1 /\ c = 4) by omega) with ⟨rfl, rfl⟩ | ⟨rfl, rfl⟩ | ⟨rfl, rfl⟩ | ⟨rfl, rfl⟩ | ⟨rfl, rfl⟩ | ⟨rfl, rfl⟩ | ⟨rfl, rfl⟩ <;> kernel_rfl
theorem zmA (n m f g : Nat) (hn : n < m) (hm : m < 5) (hf : f <= 1) (hg : g <= 1) : zlP 600 (pick n f, pick m g) = some (-1) /\ zlz 600 (pick n f, pick m g) = some (-1) := by
 rcases (show (n = 0 /\ m = 1) \/ (n = 0 /\ m = 2) \/ (n = 0 /\ m = 3) \/ (n = 0 /\ m = 4) \/ (n = 1 /\ m = 2) \/ (n = 1 /\ m = 3) \/ (n = 1 /\ m = 4) \/ (n = 2 /\ m = 3) \/ (n = 2 /\ m = 4) \/ (n = 3 /\ m = 4) by omega) with ⟨rfl, rfl⟩ | ⟨rfl, rfl⟩ | ⟨rfl, rfl⟩ | ⟨rfl, rfl⟩ | ⟨rfl, rfl⟩ | ⟨rfl, rfl⟩ | ⟨rfl, rfl⟩ | ⟨rfl, rfl⟩ | ⟨rfl, rfl⟩ | ⟨rfl, rfl⟩ <;> rcases (show f = 0 \/ f = 1 by omega) with rfl | rfl <;> rcases (show g = 0 \/ g = 1 by omega) with rfl | rfl <;> exact ⟨by kernel_rfl, by kernel_rfl⟩
@[reducible] def tmP (p : RT1) : Int := p.2.2.2.2.1
theorem zil {n f c : Nat} (hc : c <= 4) : ∀ p ∈ pks n f c, 1000 + 400 * (n : Int) <= tmP p /\ tmP p < 1000 + 400 * (n + 1 : Nat) := λ p hp => by
 obtain ⟨i, hi, rfl⟩ := List.mem_map.1 hp
 rw [List.mem_range'] at hi
 obtain ⟨j, hj, rfl⟩ := hi
 simp only [tmP, pick]
 omega
theorem zij {n i m j : Nat} (hi : i < 4) (hj : j < 4) (h : pick n i = pick m j) : n = m /\ i = j := by
 have := congrArg tmP h
 simp only [tmP, pick] at this
 omega
theorem zmQ (n f c : Nat) (hc : c <= 4) : (pks n f c).Pairwise λ a b => a ≠ b := by
 unfold pks
 rw [List.pairwise_map]
 refine (List.pairwise_lt_range' (s := f) (n := c - f)).imp_of_mem λ {a b} ha hb hab h => ?_
 rw [List.mem_range'] at ha hb
 obtain ⟨i, hi, rfl⟩ := ha
 obtain ⟨j, hj, rfl⟩ := hb
 have := zij (by omega) (by omega) h
 omega
theorem zA0 (a b : RT1) : JK (zj a) (zj b) = eqP a b := by
 show (a.1 == b.1 && (a.2.1 == b.2.1 && (a.2.2.1 == b.2.2.1 && (a.2.2.2.1 == b.2.2.2.1 && (a.2.2.2.2.1 == b.2.2.2.2.1 && (a.2.2.2.2.2.1 == b.2.2.2.2.2.1 && (a.2.2.2.2.2.2.1 == b.2.2.2.2.2.2.1 && (a.2.2.2.2.2.2.2.1 == b.2.2.2.2.2.2.2.1 && (a.2.2.2.2.2.2.2.2.1 == b.2.2.2.2.2.2.2.2.1 && true))))))))) = _
 simp only [eqP, Bool.and_true, Bool.and_assoc]
theorem zqR : ∀ (M : List RT1) (p : RT1), p ∉ M -> zgT (zj p) (M.map zj) = false /\ zbs (zj p) (zj p) (M.map zj) = (M ++ [p]).map zj
 | [], p, h => ⟨rfl, rfl⟩
 | q :: M, p, h => by
  have h1 : p ≠ q := λ e => h (by rw [e]; exact List.mem_cons_self)
  obtain ⟨i1, i2⟩ := zqR M p (λ e => h (List.mem_cons_of_mem _ e))
  have e : JK (zj p) (zj q) = false := by rw [zA0]; exact zan h1
  refine ⟨?_, ?_⟩
  ·unfold zgT at i1 |-
   simp only [List.map_cons, zau, e]
   exact i1
  ·simp only [List.map_cons, zbs, e, i2, List.cons_append]
theorem zfL (A B : List (List AV)) (la i : Int) (P : List RT1) (hP : P.length <= 500) (hd : P.Pairwise λ a b => a ≠ b) : ∀ (d k f : Nat) (M : List RT1), k + d = P.length -> d < f -> (∀ p ∈ P.drop k, p ∉ M) -> (ZL 600).L f (A, B, P.map zj, la, i, (P.length : Int), (k : Int), M.map zj) = some (.inr (A, B, la, i, (M ++ P.drop k).map zj)) := by
 intro d
 induction d with
 | zero =>
  intro k f M hk hf hM
  obtain ⟨f, rfl⟩ := pS hf
  show (ZL 600).b _ _ ((ZL 600).L f) some = _
  simp only [ZL]
  have e2 : decide ((k : Int) < (P.length : Int)) = false := dF (by omega)
  simp only [e2]
  rw [List.drop_eq_nil_of_le (by omega), List.append_nil]
 | succ d ih =>
  intro k f M hk hf hM
  obtain ⟨f, rfl⟩ := pS hf
  have hkl : k < P.length := by omega
  have e2 : decide ((k : Int) < (P.length : Int)) = true := dT (by omega)
  have e3 : (0 : Int) <= (k : Int) := by omega
  obtain ⟨m1, m2⟩ := zqR M P[k] (hM _ ((zw hkl _).2 (.inl rfl)))
  have r1 := ih (k + 1) f (M ++ [P[k]]) (by omega) (by omega) (λ p hp hm => by
   rcases List.mem_append.1 hm with h | h
   ·exact hM p ((zw hkl p).2 (.inr hp)) h
   ·have h := List.mem_singleton.1 h
    obtain ⟨j, hj, e⟩ := List.getElem_of_mem hp
    rw [List.getElem_drop] at e
    rw [List.length_drop] at hj
    exact List.pairwise_iff_getElem.1 hd k (k + 1 + j) hkl (by omega) (by omega) (by rw [e, h]))
  show (ZL 600).b _ _ ((ZL 600).L f) some = _
  generalize (ZL 600).L f = Lf at r1 |-
  simp only [ZL]
  simp only [e2, e3, if_true, Int.toNat_natCast, zaC P k hkl, zT, m1, m2, zi (show k < 1000000 by omega)]
  rw [r1, List.append_assoc]
  congr 4
  rw [List.drop_eq_getElem_cons hkl]
  rfl
theorem zdM (A : List RT0) (hA : A.length <= 5) : ∀ (R : List RT0) (k lo f : Nat) (M : List RT1), A.drop k = R -> R.length < f -> k + R.length = A.length -> Evs lo 5 R -> (∀ q ∈ M, tmP q < 1000 + 400 * (lo : Int)) -> (∀ (h : 0 < k) (h' : k - 1 < A.length), ∃ n g, n < lo /\ g <= 1 /\ nmE A[k - 1] = pick n g) ->
  (zS 600).L f (A.map zu, A.map zu, (A.length : Int), (k : Int), M.map zj) = some (.inr ())
 | [], k, lo, f, M, hR, hf, hk, hE, hM, hN => by
  obtain ⟨f, rfl⟩ := pS hf
  show (zS 600).b _ _ ((zS 600).L f) some = _
  simp only [zS]
  have e2 : decide ((k : Int) < (A.length : Int)) = false := by rw [decide_eq_false_iff_not]; simp at hk; omega
  simp only [e2]
 | e :: R, k, lo, f, M, hR, hf, hk, hE, hM, hN => by
  obtain ⟨f, rfl⟩ := pS hf
  rw [List.length_cons] at hf hk
  have hkl : k < A.length := by omega
  have hek : A[k] = e := by
   have := List.drop_eq_getElem_cons hkl
   rw [hR] at this
   exact (List.cons.inj this).1.symm
  obtain ⟨n, hn, ⟨g, c, c1, c2, c3, c4, c5, c6⟩, hE'⟩ := hE
  have hn5 : n + 1 <= 5 := by
   have : ∀ (L : List RT0) (lo hi : Nat), Evs lo hi L -> lo <= hi := λ L => by
    induction L with
    | nil => exact λ lo hi h => h
    | cons a L ih => exact λ lo hi ⟨n, h1, _, h3⟩ => by have := ih _ _ h3; omega
   exact this _ _ _ hE'
  have e2 : decide ((k : Int) < (A.length : Int)) = true := dT (by omega)
  have e3 : (0 : Int) <= (k : Int) := by omega
  have r1 := zdM A hA R (k + 1) (n + 1) f (M ++ pks n g c) (by rw [<- List.tail_drop, hR]; rfl) (by omega) (by omega) hE' (λ q hq => by
   rcases List.mem_append.1 hq with h | h
   ·have := hM q h; omega
   ·exact (zil c2 q h).2) (λ _ h' => ⟨n, g, by omega, c3, by simp only [Nat.add_sub_cancel]; rw [hek]; exact c4⟩)
  have s1 := zm7 n g c (by omega) c1 c2 c3
  have s2 := ztq n g c (by omega) c1 c2 c3
  have sl := zfL (A.map zu) (A.map zu) (A.length : Int) (k : Int) (pks n g c) (by rw [jH]; omega) (zmQ n g c c2) (pks n g c).length 0 600 M (by omega) (by rw [jH]; omega) (λ p hp hm => by
   have h1 := (zil c2 p hp).1
   have h2 := hM p hm
   omega)
  rw [List.drop_zero] at sl
  replace sl : (ZL 600).L 600 (A.map zu, A.map zu, (pks n g c).map zj, (A.length : Int), (k : Int), ((pks n g c).length : Int), 0, M.map zj) = some (.inr (A.map zu, A.map zu, (A.length : Int), (k : Int), (M ++ pks n g c).map zj)) := sl
  have c5' : e.2.2.2.2.2.2.2.2.2.1 = (pks n g c).map zj := c5
  have e4 : (((pks n g c).length : Int) == 0) = false := by rw [jH]; simp; omega
  have e5 : eqP (nmE e) (pick n g) = true := by rw [c4]; exact JU _
  show (zS 600).b _ _ ((zS 600).L f) some = _
  generalize (zS 600).L f = Lf at r1 |-
  simp only [zS]
  simp only [e2, e3, if_true, Int.toNat_natCast, zjl A k hkl, hek, jn, c5', List.length_map, e4, s1, s2, e5, Bool.not_true]
  by_cases hk0 : (k : Int) > 0
  ·have hk1 : i64 ((k : Int) - 1) = ((k - 1 : Nat) : Int) := by rw [zG (by omega)]; omega
   obtain ⟨n', g', z1, z2, z3⟩ := hN (by omega) (by omega)
   have hl := (zmA n' n g' g (by omega) (by omega) z2 c3).1
   rw [<- c4] at hl
   rw [<- z3] at hl
   have e6 : decide ((-1 : Int) >= 0) = false := by decide
   have e7 : (0 : Int) <= ((k - 1 : Nat) : Int) := by omega
   simp only [hk0, decide_true, hk1, e7, if_true, Int.toNat_natCast, zjl A (k - 1) (by omega), nm0, hl, e6, sl, zi (show k < 1000000 by omega)]
   exact r1
  ·simp only [hk0, decide_false, sl, zi (show k < 1000000 by omega)]
   exact r1
theorem zdB {L : List RT0} {lo hi : Nat} : Evs lo hi L -> L.length + lo <= hi := by
 induction L generalizing lo with
 | nil => intro h; have h' : lo <= hi := h; rw [List.length_nil]; omega
 | cons a L ih => exact λ ⟨n, h1, _, h3⟩ => by have := ih h3; rw [List.length_cons]; omega
theorem zcs {A : List RT0} {m : Nat} (hm : m <= 5) (h : Evs 0 m A) : zd0 600 (A.map zu) = some true := by
 have hl := zdB h
 have := zdM A (by omega) A 0 0 600 [] rfl (by omega) (by omega) (h.mono hm) (λ q hq => by cases hq) (λ h => by omega)
 replace this : (zS 600).L 600 (A.map zu, A.map zu, (A.length : Int), 0, []) = some (.inr ()) := this
 simp only [zd0, FSpec.d, znK, zlb, List.length_map, this]
def Jf (e : RT0) : Prop := ∃ P : List RT1, P.length <= 20 /\ pkE e = P.map zj
theorem EvAt.pk {n : Nat} {e : RT0} (h : EvAt n e) : Jf e := by
 obtain ⟨f, c, h1, h2, h3, h4, h5, h6⟩ := h
 exact ⟨pks n f c, by rw [jH]; omega, h5⟩
theorem Evs.all : ∀ {E : List RT0} {lo hi : Nat}, Evs lo hi E -> ∀ e ∈ E, ∃ n, lo <= n /\ n < hi /\ EvAt n e
 | [], lo, hi, h, e, he => by cases he
 | a :: E, lo, hi, h, e, he => by
  obtain ⟨n, h1, h2, h3⟩ := h
  have := zdB h3
  rcases List.mem_cons.1 he with h | h
  ·subst h; exact ⟨n, h1, by omega, h2⟩
  ·obtain ⟨m, q1, q2, q3⟩ := h3.all e h
   exact ⟨m, by omega, q2, q3⟩
theorem Evs.names : ∀ {E : List RT0} {lo hi : Nat}, Evs lo hi E -> E.Pairwise λ a b => nmE a ≠ nmE b
 | [], lo, hi, h => .nil
 | a :: E, lo, hi, h => by
  obtain ⟨n, h1, ⟨f, c, c1, c2, c3, c4, c5, c6⟩, h3⟩ := h
  refine .cons (λ b hb e => ?_) h3.names
  obtain ⟨m, q1, q2, f', c', z1, z2, z3, z4, z5, z6⟩ := h3.all b hb
  rw [c4, z4] at e
  have := zij (by omega) (by omega) e
  omega
theorem Evs.pk {E : List RT0} {lo hi : Nat} (h : Evs lo hi E) : ∀ e ∈ E, Jf e := λ e he => by
 obtain ⟨n, _, _, q⟩ := h.all e he
 exact q.pk
structure EvOk (E : List RT0) : Prop where
 v : zd0 600 (E.map zu) = some true
 l : E.length <= 5
 names : E.Pairwise λ a b => nmE a ≠ nmE b
 pk : ∀ e ∈ E, Jf e
theorem Evs.ok {E : List RT0} {m : Nat} (hm : m <= 5) (h : Evs 0 m E) : EvOk E := ⟨zcs hm h, by have := zdB h; omega, h.names, h.pk⟩
end
section
theorem zxs (A B : List (List AV)) (P Q : List RT1) (i : Nat) (hi : i < P.length) (hA : A = P.map zj) (hB : B = Q.map zj) (hQ : Q.length <= 500) : ∀ (d k f : Nat), k + d = Q.length -> d < f -> ∃ y, (Zz 600).L f (A, B, (i : Int), (k : Int)) = some y /\ ((P[i] ∈ Q.drop k /\ y = .inl (A, B, true, (i : Int))) \/ (P[i] ∉ Q.drop k /\ y = .inr (A, B, (i : Int)))) := by
 subst hA hB
 intro d
 induction d with
 | zero =>
  intro k f hk hf
  obtain ⟨f, rfl⟩ := pS hf
  refine ⟨_, ?_, .inr ⟨by rw [List.drop_eq_nil_of_le (by omega)]; simp, rfl⟩⟩
  show (Zz 600).b _ _ ((Zz 600).L f) some = _
  simp only [Zz]
  have e2 : decide ((k : Int) < (Q.length : Int)) = false := dF (by omega)
  simp only [List.length_map, e2]
 | succ d ih =>
  intro k f hk hf
  obtain ⟨f, rfl⟩ := pS hf
  have hkl : k < Q.length := by omega
  have e2 : decide ((k : Int) < (Q.length : Int)) = true := dT (by omega)
  have e3 : (0 : Int) <= (k : Int) := by omega
  have e4 : (0 : Int) <= (i : Int) := by omega
  by_cases hc : P[i] = Q[k]
  ·refine ⟨_, ?_, .inl ⟨(zw hkl _).2 (.inl hc), rfl⟩⟩
   show (Zz 600).b _ _ ((Zz 600).L f) some = _
   simp only [Zz]
   have e5 : eqP P[i] Q[k] = true := by rw [hc]; exact JU _
   simp only [List.length_map, e2, e3, e4, if_true, Int.toNat_natCast, zaC Q k hkl, zaC P i hi, zT, e5]
  ·obtain ⟨y, r1, r2⟩ := ih (k + 1) f (by omega) (by omega)
   refine ⟨y, ?_, ?_⟩
   ·show (Zz 600).b _ _ ((Zz 600).L f) some = _
    generalize (Zz 600).L f = Lf at r1 |-
    simp only [Zz]
    have e5 : eqP P[i] Q[k] = false := zan hc
    simp only [List.length_map, e2, e3, e4, if_true, Int.toNat_natCast, zaC Q k hkl, zaC P i hi, zT, e5, zi (show k < 1000000 by omega)]
    exact r1
   ·rcases r2 with ⟨h1, h2⟩ | ⟨h1, h2⟩
    ·exact .inl ⟨(zw hkl _).2 (.inr h1), h2⟩
    ·exact .inr ⟨λ h => ((zw hkl _).1 h).elim hc h1, h2⟩
theorem zs3 (P Q : List RT1) (hP : P.length <= 500) (hQ : Q.length <= 500) : ∀ (d k f : Nat), k + d = P.length -> d < f -> ∃ y, (jj 600).L f (P.map zj, Q.map zj, (k : Int)) = some y /\ ((Com (P.drop k) Q /\ y = .inl true) \/ (¬ Com (P.drop k) Q /\ y = .inr ())) := by
 intro d
 induction d with
 | zero =>
  intro k f hk hf
  obtain ⟨f, rfl⟩ := pS hf
  refine ⟨_, ?_, .inr ⟨by (rw [List.drop_eq_nil_of_le (by omega)]; rintro ⟨p, h, -⟩; cases h), rfl⟩⟩
  show (jj 600).b _ _ ((jj 600).L f) some = _
  simp only [jj]
  have e2 : decide ((k : Int) < (P.length : Int)) = false := dF (by omega)
  simp only [List.length_map, e2]
 | succ d ih =>
  intro k f hk hf
  obtain ⟨f, rfl⟩ := pS hf
  have hkl : k < P.length := by omega
  have e2 : decide ((k : Int) < (P.length : Int)) = true := dT (by omega)
  obtain ⟨z, q1, q2⟩ := zxs _ _ P Q k hkl rfl rfl hQ Q.length 0 600 (by omega) (by omega)
  replace q1 : (Zz 600).L 600 (P.map zj, Q.map zj, (k : Int), 0) = some z := q1
  rw [List.drop_zero] at q2
  rcases q2 with ⟨g1, rfl⟩ | ⟨g1, rfl⟩
  ·refine ⟨_, ?_, .inl ⟨⟨P[k], (zw hkl _).2 (.inl rfl), g1⟩, rfl⟩⟩
   show (jj 600).b _ _ ((jj 600).L f) some = _
   simp only [jj]
   simp only [List.length_map, e2, zgi, q1]
  ·obtain ⟨y, r1, r2⟩ := ih (k + 1) f (by omega) (by omega)
   refine ⟨y, ?_, ?_⟩
   ·show (jj 600).b _ _ ((jj 600).L f) some = _
    generalize (jj 600).L f = Lf at r1 |-
    simp only [jj]
    simp only [List.length_map, e2, zgi, q1, zi (show k < 1000000 by omega)]
    exact r1
   ·rcases r2 with ⟨⟨p, h1, h2⟩, h3⟩ | ⟨h1, h2⟩
    ·exact .inl ⟨⟨p, (zw hkl _).2 (.inr h1), h2⟩, h3⟩
    ·refine .inr ⟨λ ⟨p, h, h'⟩ => ?_, h2⟩
     rcases (zw hkl _).1 h with e | e
     ·subst e; exact g1 h'
     ·exact h1 ⟨p, e, h'⟩
theorem zAS (P Q : List RT1) (hP : P.length <= 500) (hQ : Q.length <= 500) : ∃ b, zsk 600 (P.map zj, Q.map zj) = some b /\ (b = true ↔ Com P Q) := by
 obtain ⟨y, h1, h2⟩ := zs3 P Q hP hQ P.length 0 600 (by omega) (by omega)
 replace h1 : (jj 600).L 600 (P.map zj, Q.map zj, 0) = some y := h1
 rw [List.drop_zero] at h2
 simp only [zsk, FSpec.d, zsm, zqp, h1]
 rcases h2 with ⟨h2, rfl⟩ | ⟨h2, rfl⟩
 ·exact ⟨_, rfl, by simp [h2]⟩
 ·exact ⟨_, rfl, by simp [h2]⟩
theorem zxq (A B : List (List AV)) (P Q : List RT1) (i : Nat) (hi : i < P.length) (hA : A = P.map zj) (hB : B = Q.map zj) (hQ : Q.length <= 500) : ∀ (d k f : Nat), k + d = Q.length -> d < f -> ∃ y, (ZA 600).L f (A, B, (i : Int), (k : Int)) = some y /\ ((P[i] ∈ Q.drop k /\ y = .inl (A, B, true, (i : Int))) \/ (P[i] ∉ Q.drop k /\ y = .inr (A, B, (i : Int)))) := by
 subst hA hB
 intro d
 induction d with
 | zero =>
  intro k f hk hf
  obtain ⟨f, rfl⟩ := pS hf
  refine ⟨_, ?_, .inr ⟨by rw [List.drop_eq_nil_of_le (by omega)]; simp, rfl⟩⟩
  show (ZA 600).b _ _ ((ZA 600).L f) some = _
  simp only [ZA]
  have e2 : decide ((k : Int) < (Q.length : Int)) = false := dF (by omega)
  simp only [List.length_map, e2]
 | succ d ih =>
  intro k f hk hf
  obtain ⟨f, rfl⟩ := pS hf
  have hkl : k < Q.length := by omega
  have e2 : decide ((k : Int) < (Q.length : Int)) = true := dT (by omega)
  have e3 : (0 : Int) <= (k : Int) := by omega
  have e4 : (0 : Int) <= (i : Int) := by omega
  by_cases hc : P[i] = Q[k]
  ·refine ⟨_, ?_, .inl ⟨(zw hkl _).2 (.inl hc), rfl⟩⟩
   show (ZA 600).b _ _ ((ZA 600).L f) some = _
   simp only [ZA]
   have e5 : eqP P[i] Q[k] = true := by rw [hc]; exact JU _
   simp only [List.length_map, e2, e3, e4, if_true, Int.toNat_natCast, zaC Q k hkl, zaC P i hi, zT, e5]
  ·obtain ⟨y, r1, r2⟩ := ih (k + 1) f (by omega) (by omega)
   refine ⟨y, ?_, ?_⟩
   ·show (ZA 600).b _ _ ((ZA 600).L f) some = _
    generalize (ZA 600).L f = Lf at r1 |-
    simp only [ZA]
    have e5 : eqP P[i] Q[k] = false := zan hc
    simp only [List.length_map, e2, e3, e4, if_true, Int.toNat_natCast, zaC Q k hkl, zaC P i hi, zT, e5, zi (show k < 1000000 by omega)]
    exact r1
   ·rcases r2 with ⟨h1, h2⟩ | ⟨h1, h2⟩
    ·exact .inl ⟨(zw hkl _).2 (.inr h1), h2⟩
    ·exact .inr ⟨λ h => ((zw hkl _).1 h).elim hc h1, h2⟩
theorem zs0 (P Q : List RT1) (hP : P.length <= 500) (hQ : Q.length <= 500) : ∀ (d k f : Nat), k + d = P.length -> d < f -> ∃ y, (jl 600).L f (P.map zj, Q.map zj, (k : Int)) = some y /\ ((Com (P.drop k) Q /\ y = .inl true) \/ (¬ Com (P.drop k) Q /\ y = .inr ())) := by
 intro d
 induction d with
 | zero =>
  intro k f hk hf
  obtain ⟨f, rfl⟩ := pS hf
  refine ⟨_, ?_, .inr ⟨by (rw [List.drop_eq_nil_of_le (by omega)]; rintro ⟨p, h, -⟩; cases h), rfl⟩⟩
  show (jl 600).b _ _ ((jl 600).L f) some = _
  simp only [jl]
  have e2 : decide ((k : Int) < (P.length : Int)) = false := dF (by omega)
  simp only [List.length_map, e2]
 | succ d ih =>
  intro k f hk hf
  obtain ⟨f, rfl⟩ := pS hf
  have hkl : k < P.length := by omega
  have e2 : decide ((k : Int) < (P.length : Int)) = true := dT (by omega)
  obtain ⟨z, q1, q2⟩ := zxq _ _ P Q k hkl rfl rfl hQ Q.length 0 600 (by omega) (by omega)
  replace q1 : (ZA 600).L 600 (P.map zj, Q.map zj, (k : Int), 0) = some z := q1
  rw [List.drop_zero] at q2
  rcases q2 with ⟨g1, rfl⟩ | ⟨g1, rfl⟩
  ·refine ⟨_, ?_, .inl ⟨⟨P[k], (zw hkl _).2 (.inl rfl), g1⟩, rfl⟩⟩
   show (jl 600).b _ _ ((jl 600).L f) some = _
   simp only [jl]
   simp only [List.length_map, e2, zgn, q1]
  ·obtain ⟨y, r1, r2⟩ := ih (k + 1) f (by omega) (by omega)
   refine ⟨y, ?_, ?_⟩
   ·show (jl 600).b _ _ ((jl 600).L f) some = _
    generalize (jl 600).L f = Lf at r1 |-
    simp only [jl]
    simp only [List.length_map, e2, zgn, q1, zi (show k < 1000000 by omega)]
    exact r1
   ·rcases r2 with ⟨⟨p, h1, h2⟩, h3⟩ | ⟨h1, h2⟩
    ·exact .inl ⟨⟨p, (zw hkl _).2 (.inr h1), h2⟩, h3⟩
    ·refine .inr ⟨λ ⟨p, h, h'⟩ => ?_, h2⟩
     rcases (zw hkl _).1 h with e | e
     ·subst e; exact g1 h'
     ·exact h1 ⟨p, e, h'⟩
theorem zAT (P Q : List RT1) (hP : P.length <= 500) (hQ : Q.length <= 500) : ∃ b, znX 600 (P.map zj, Q.map zj) = some b /\ (b = true ↔ Com P Q) := by
 obtain ⟨y, h1, h2⟩ := zs0 P Q hP hQ P.length 0 600 (by omega) (by omega)
 replace h1 : (jl 600).L 600 (P.map zj, Q.map zj, 0) = some y := h1
 rw [List.drop_zero] at h2
 simp only [znX, FSpec.d, zss, zqw, h1]
 rcases h2 with ⟨h2, rfl⟩ | ⟨h2, rfl⟩
 ·exact ⟨_, rfl, by simp [h2]⟩
 ·exact ⟨_, rfl, by simp [h2]⟩
end
end Go.Proofs.YthdgnfcbehcplaaGreatDoor
