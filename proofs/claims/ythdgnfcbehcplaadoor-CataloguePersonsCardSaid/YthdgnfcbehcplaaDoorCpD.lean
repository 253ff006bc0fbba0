/- Several texts as one (written by pack.py). -/
import Derived.Test.YthdgnfcbehcplaaDoorCpC
section
namespace Go.Proofs.YthdgnfcbehcplaaDoor
noncomputable section
open Go.RowKit
set_option maxRecDepth 4000
set_option maxHeartbeats 4000000
def zpB : Nat -> Keep × Keep := anL []
def zCj (N : Nat) : GamK := gam (P := qP) []
def zhm (N : Nat) : FSpec where
 X := ByteArray × ByteArray
 Y := Int
 ash := [[none], [none]]
 S := ⟨[[none]], [], [], [], []⟩
 pat := fun a b => rdA [.str, .str] [] a b fun ⟨a0, a1, _⟩ _ => (a0, a1)
 args := fun x => [(AV.v (.string x.1)), (AV.v (.string x.2))]
 ret := fun y => ⟨(AV.v (.int .i64 y)), [], none, [], [], [], none⟩
 t := fun x α k => (match (Go.Op.bytesLess x.1.toList x.2.toList) with | true => (k (-1)) | false => (match (!((Go.Op.bytesLess x.1.toList x.2.toList) || (x.1.toList == x.2.toList))) with | true => (k 1) | false => (k 0)))
abbrev ziK (N : Nat) (x : ByteArray × ByteArray) : Option (Int) := (zhm N).d x
theorem zpz (N : Nat) : Zd (zhm N).t := by
 intro x α β k k' r r' h h1
 revert h
 dsimp only [zhm]
 (repeat' (first | (with_reducible refine ze ?_ ?_) | split)) <;> intro h <;> first | exact h1 _ h | cases h
theorem zmd (N : Nat) : Zh (zn qP) (zCj N) zpB (lam N []) Tryd.f103 (zhm N) := fun x => by kernel_rfl
def zAV (N : Nat) : Ent qP := zA (zd qP) (zi _) zl 103 Tryd.f103 Tryd.func103 rfl zpB (lam N []) (zm (l := []) an (by kernel_rfl)) (zhm N) (fun _ => ⟨rfl, rfl⟩) (zmd N) (fun _ _ _ h => zw h (fun _ _ => rfl) (fun _ _ => rfl)) (zpz N)
abbrev RK4 : List Ck := [.int .i64, .int .i64, .int .i64, .int .i64]
abbrev RT4 : Type := Int × Int × Int × Int × Unit
def Ren4 (e : RT4) : List AV := enc RK4 e
def J3 : Nat -> Keep × Keep := anL [(4, qK [27, 28] [] [], qK [4] [] [])]
def zwi (N : Nat) : GamK := gam (P := qP) [zAV N]
def zaG (N : Nat) : LSpec where
 X := RT4 × Int
 Y := (Int) ⊕ (Unit)
 p := fun s => rdS 35 0 [(27, .agg RK4), (28, .int .i64)] [] s fun ⟨a0, a1, _⟩ _ => (a0, a1)
 st := fun u4 => mkS 35 [(27, (AV.agg (Ren4 u4.1))), (28, (qI u4.2))] [] (J3 4).1.toks 0
 out := fun y => match y with
  | .inl y => (.ret, mkS 35 [(4, (qI y))] [] (J3 4).2.toks 0)
  | .inr y => (.exit 0, mkS 35 [] [] (J3 4).2.toks 0)
 b := fun u4 α kn ke => (match (decide (u4.2 < 4)) with | true => (if 0 <= u4.2 /\ u4.2 < 4 then (match [(AV.v (.int .i64 u4.1.1)), (AV.v (.int .i64 u4.1.2.1)), (AV.v (.int .i64 u4.1.2.2.1)), (AV.v (.int .i64 u4.1.2.2.2.1))][(u4.2.toNat * 1)]? with | some x5 => (match x5 with | .v (.int q7 n6) => (if q7 = .i64 then (match (n6 != 0) with | true => (ke (.inl n6)) | false => (kn (u4.1, (i64 (u4.2 + 1))))) else none) | _ => none) | none => none) else none) | false => (ke (.inr ())))
abbrev zyn (N : Nat) (x : RT4 × Int) : Option ((Int) ⊕ (Unit)) := (zaG N).L N x
def zgC (N : Nat) : FSpec where
 X := RT2 × RT2
 Y := Int
 ash := [[none, none, none, none], [none, none, none, none]]
 S := ⟨[[none]], [], [], [], []⟩
 pat := fun a b => rdA [.agg RK2, .agg RK2] [] a b fun ⟨a0, a1, _⟩ _ => (a0, a1)
 args := fun x => [(AV.agg (zBW x.1)), (AV.agg (zBW x.2))]
 ret := fun y => ⟨(AV.v (.int .i64 y)), [], none, [], [], [], none⟩
 t := fun x α k => (match ziK N (x.1.1, x.2.1) with | some y1 => (match ziK N (x.1.2.1, x.2.2.1) with | some y2 => (match ziK N (x.1.2.2.1, x.2.2.2.1) with | some y3 => (match ziK N (x.1.2.2.2.1, x.2.2.2.2.1) with | some y4 => (match zyn N ((y1, y2, y3, y4, ()), 0) with | some y8 => (match y8 with | .inl z9 => (k z9) | .inr z10 => (k 0)) | none => none) | none => none) | none => none) | none => none) | none => none)
abbrev zpc (N : Nat) (x : RT2 × RT2) : Option (Int) := (zgC N).d x
def zc1 (N : Nat) : List (Nat × LSpec) := [(4, zaG N)]
def ziL : Code := Tryd.f101.body.getD .skip
theorem zpL (N : Nat) : Par (zaG N).b := by
 intro x α β kn ke kn' ke' r r' h h1 h2
 revert h
 dsimp only [zaG]
 (repeat' (first | (with_reducible refine ze ?_ ?_) | split)) <;> intro h <;> first | exact h1 _ h | exact h2 _ h | cases h
theorem zlz (N : Nat) : jh (zn qP) (zwi N) J3 N (zc1 N) 4 ziL (zaG N) := fun x α kn ke => by kernel_rfl
theorem zj1 (N : Nat) : ZK qP J3 N (zc1 N) 4 (zc 4 ziL) :=
 zD (zd qP) (zi _) zl J3 N (zc1 N) 4 ziL (l := []) (by kernel_rfl) (by kernel_rfl) an (zaG N) rfl (fun s x hc h => by dsimp only [zaG] at h; exact zJ hc h (fun _ _ => rfl) rfl rfl rfl) (fun _ => rfl) (zlz N) (zpL N)
theorem znG (N : Nat) : Zd (zgC N).t := by
 intro x α β k k' r r' h h1
 revert h
 dsimp only [zgC]
 (repeat' (first | (with_reducible refine ze ?_ ?_) | split)) <;> intro h <;> first | exact h1 _ h | cases h
theorem zpU (N : Nat) : Zh (zn qP) (zwi N) J3 (lam N (zc1 N)) Tryd.f101 (zgC N) := fun x => by kernel_rfl
def zBF (N : Nat) : Ent qP := zA (zd qP) (zi _) zl 101 Tryd.f101 Tryd.func101 rfl J3 (lam N (zc1 N)) (zm (l := [(4, zc 4 ziL)]) (al (zj1 N) an) (by kernel_rfl)) (zgC N) (fun _ => ⟨rfl, rfl⟩) (zpU N) (fun _ _ _ h => zw h (fun _ _ => rfl) (fun _ _ => rfl)) (znG N)
abbrev RK5 : List Ck := [.int .i64, .int .i64, .int .i64, .int .i64, .int .i64, .int .i64, .int .i64, .int .i64, .int .i64, .int .i64]
abbrev RT5 : Type := Int × Int × Int × Int × Int × Int × Int × Int × Int × Int × Unit
def Ren5 (e : RT5) : List AV := enc RK5 e
def zbU : Nat -> Keep × Keep := anL [(9, qK [41, 42] [] [], qK [4] [] [])]
def zBH (N : Nat) : GamK := gam (P := qP) [zBF N]
def zc3 (N : Nat) : LSpec where
 X := RT5 × Int
 Y := (Int) ⊕ (Unit)
 p := fun s => rdS 56 0 [(41, .agg RK5), (42, .int .i64)] [] s fun ⟨a0, a1, _⟩ _ => (a0, a1)
 st := fun u9 => mkS 56 [(41, (AV.agg (Ren5 u9.1))), (42, (qI u9.2))] [] (zbU 9).1.toks 0
 out := fun y => match y with
  | .inl y => (.ret, mkS 56 [(4, (qI y))] [] (zbU 9).2.toks 0)
  | .inr y => (.exit 0, mkS 56 [] [] (zbU 9).2.toks 0)
 b := fun u9 α kn ke => (match (decide (u9.2 < 5)) with | true => (if 0 <= u9.2 /\ u9.2 < 5 then (match ([(AV.v (.int .i64 u9.1.1)), (AV.v (.int .i64 u9.1.2.1)), (AV.v (.int .i64 u9.1.2.2.1)), (AV.v (.int .i64 u9.1.2.2.2.1)), (AV.v (.int .i64 u9.1.2.2.2.2.1)), (AV.v (.int .i64 u9.1.2.2.2.2.2.1)), (AV.v (.int .i64 u9.1.2.2.2.2.2.2.1)), (AV.v (.int .i64 u9.1.2.2.2.2.2.2.2.1)), (AV.v (.int .i64 u9.1.2.2.2.2.2.2.2.2.1)), (AV.v (.int .i64 u9.1.2.2.2.2.2.2.2.2.2.1))].drop (u9.2.toNat * 2)) with | x2 :: r3 => (match x2 with | .v (.int q5 n4) => (if q5 = .i64 then (match r3 with | x6 :: r7 => (match x6 with | .v (.int q9 n8) => (if q9 = .i64 then (match (decide (n4 < n8)) with | true => (ke (.inl (-1))) | false => (match (decide (n4 > n8)) with | true => (ke (.inl 1)) | false => (kn (u9.1, (i64 (u9.2 + 1)))))) else none) | _ => none) | [] => none) else none) | _ => none) | [] => none) else none) | false => (ke (.inr ())))
abbrev zz9 (N : Nat) (x : RT5 × Int) : Option ((Int) ⊕ (Unit)) := (zc3 N).L N x
def zhI (N : Nat) : FSpec where
 X := RT1 × RT1
 Y := Int
 ash := [[none, none, none, none, none, none, none, none, none], [none, none, none, none, none, none, none, none, none]]
 S := ⟨[[none]], [], [], [], []⟩
 pat := fun a b => rdA [.agg RK1, .agg RK1] [] a b fun ⟨a0, a1, _⟩ _ => (a0, a1)
 args := fun x => [(AV.agg (zq x.1)), (AV.agg (zq x.2))]
 ret := fun y => ⟨(AV.v (.int .i64 y)), [], none, [], [], [], none⟩
 t := fun x α k => (match zpc N ((zff x.1), (zff x.2)) with | some y1 => (match (y1 != 0) with | true => (k y1) | false => (match zz9 N ((x.1.2.2.2.2.1, x.2.2.2.2.2.1, x.1.2.2.2.2.2.1, x.2.2.2.2.2.2.1, x.1.2.2.2.2.2.2.1, x.2.2.2.2.2.2.2.1, x.1.2.2.2.2.2.2.2.1, x.2.2.2.2.2.2.2.2.1, x.1.2.2.2.2.2.2.2.2.1, x.2.2.2.2.2.2.2.2.2.1, ()), 0) with | some y10 => (match y10 with | .inl z11 => (k z11) | .inr z12 => (k 0)) | none => none)) | none => none)
abbrev zlx (N : Nat) (x : RT1 × RT1) : Option (Int) := (zhI N).d x
def zgV (N : Nat) : List (Nat × LSpec) := [(9, zc3 N)]
def ztm : Code := Tryd.f97.body.getD .skip
theorem zrc (N : Nat) : Par (zc3 N).b := by
 intro x α β kn ke kn' ke' r r' h h1 h2
 revert h
 dsimp only [zc3]
 (repeat' (first | (with_reducible refine ze ?_ ?_) | split)) <;> intro h <;> first | exact h1 _ h | exact h2 _ h | cases h
theorem zpE (N : Nat) : jh (zn qP) (zBH N) zbU N (zgV N) 9 ztm (zc3 N) := fun x α kn ke => by kernel_rfl
theorem zoT (N : Nat) : ZK qP zbU N (zgV N) 9 (zc 9 ztm) :=
 zD (zd qP) (zi _) zl zbU N (zgV N) 9 ztm (l := []) (by kernel_rfl) (by kernel_rfl) an (zc3 N) rfl (fun s x hc h => by dsimp only [zc3] at h; exact zJ hc h (fun _ _ => rfl) rfl rfl rfl) (fun _ => rfl) (zpE N) (zrc N)
theorem zt0 (N : Nat) : Zd (zhI N).t := by
 intro x α β k k' r r' h h1
 revert h
 dsimp only [zhI]
 (repeat' (first | (with_reducible refine ze ?_ ?_) | split)) <;> intro h <;> first | exact h1 _ h | cases h
theorem zrJ (N : Nat) : Zh (zn qP) (zBH N) zbU (lam N (zgV N)) Tryd.f97 (zhI N) := fun x => by kernel_rfl
def zAq (N : Nat) : Ent qP := zA (zd qP) (zi _) zl 97 Tryd.f97 Tryd.func97 rfl zbU (lam N (zgV N)) (zm (l := [(9, zc 9 ztm)]) (al (zoT N) an) (by kernel_rfl)) (zhI N) (fun _ => ⟨rfl, rfl⟩) (zrJ N) (fun _ _ _ h => zw h (fun _ _ => rfl) (fun _ _ => rfl)) (zt0 N)
def zwv : Nat -> Keep × Keep := anL []
def zCC (N : Nat) : GamK := gam (P := qP) [zAq N]
def zlK (N : Nat) : FSpec where
 X := RT1 × RT1
 Y := Int
 ash := [[none, none, none, none, none, none, none, none, none], [none, none, none, none, none, none, none, none, none]]
 S := ⟨[[none]], [], [], [], []⟩
 pat := fun a b => rdA [.agg RK1, .agg RK1] [] a b fun ⟨a0, a1, _⟩ _ => (a0, a1)
 args := fun x => [(AV.agg (zq x.1)), (AV.agg (zq x.2))]
 ret := fun y => ⟨(AV.v (.int .i64 y)), [], none, [], [], [], none⟩
 t := fun x α k => (match (decide (x.1.2.2.2.2.1 < x.2.2.2.2.2.1)) with | true => (k (-1)) | false => (match (decide (x.1.2.2.2.2.1 > x.2.2.2.2.2.1)) with | true => (k 1) | false => (match zlx N x with | some y1 => (k y1) | none => none)))
abbrev zmQ (N : Nat) (x : RT1 × RT1) : Option (Int) := (zlK N).d x
theorem zuF (N : Nat) : Zd (zlK N).t := by
 intro x α β k k' r r' h h1
 revert h
 dsimp only [zlK]
 (repeat' (first | (with_reducible refine ze ?_ ?_) | split)) <;> intro h <;> first | exact h1 _ h | cases h
theorem ztd (N : Nat) : Zh (zn qP) (zCC N) zwv (lam N []) Tryd.f81 (zlK N) := fun x => by kernel_rfl
def zBw (N : Nat) : Ent qP := zA (zd qP) (zi _) zl 81 Tryd.f81 Tryd.func81 rfl zwv (lam N []) (zm (l := []) an (by kernel_rfl)) (zlK N) (fun _ => ⟨rfl, rfl⟩) (ztd N) (fun _ _ _ h => zw h (fun _ _ => rfl) (fun _ _ => rfl)) (zuF N)
def zcI : Nat -> Keep × Keep := anL [(5, ⟨[2, 3, 4], [], [2, 3], [(0, 9)], [], [], [], [], false, none, []⟩, qK [2, 3] [] [2, 3])]
def zAh (N : Nat) : GamK := gam (P := qP) [zBw N]
def jF (N : Nat) : LSpec where
 X := qL × Int × RT1 × RT1
 Y := (RT1 × RT1)
 p := fun s => rdS 26 0 [(0, .lst 9), (2, .ptr 2 0), (3, .ptr 3 0), (4, .int .i64)] [(2, .row RK1), (3, .row RK1)] s fun ⟨a0, _, _, a1, _⟩ ⟨a2, a3, _⟩ => (a0, a1, a2, a3)
 st := fun u5 => mkS 26 [(0, (AV.list 9 u5.1 none)), (2, (AV.ptr 2 0)), (3, (AV.ptr 3 0)), (4, (qI u5.2.1))] [(2, (zq u5.2.2.1)), (3, (zq u5.2.2.2))] (zcI 5).1.toks 0
 out := fun y => (.exit 0, mkS 26 [(2, (AV.ptr 2 0)), (3, (AV.ptr 3 0))] [(2, (zq y.1)), (3, (zq y.2))] (zcI 5).2.toks 0)
 b := fun u5 α kn ke => (match (decide (u5.2.1 < (u5.1.length : Int))) with | true => (if 0 <= u5.2.1 then (match u5.1[u5.2.1.toNat]? with | some c8 => (match Jv c8 with | some e9 => (match zmQ N (e9, u5.2.2.2) with | some y10 => (match (decide (y10 < 0)) with | true => (if 0 <= u5.2.1 then (match u5.1[u5.2.1.toNat]? with | some c11 => (match Jv c11 with | some e12 => (kn (u5.1, (i64 (u5.2.1 + 1)), u5.2.2.1, e12)) | none => none) | none => none) else none) | false => (kn (u5.1, (i64 (u5.2.1 + 1)), u5.2.2))) | none => none) | none => none) | none => none) else none) | false => (ke u5.2.2))
abbrev zwI (N : Nat) (x : qL × Int × RT1 × RT1) : Option ((RT1 × RT1)) := (jF N).L N x
def zkj (N : Nat) : FSpec where
 X := qL
 Y := RT1
 ash := [[some 9]]
 S := ⟨[[none, none, none, none, none, none, none, none, none]], [], [], [], []⟩
 pat := fun a b => rdA [.lst 9] [] a b fun ⟨a0, _⟩ _ => a0
 args := fun x => [(AV.list 9 x none)]
 ret := fun y => ⟨(AV.agg (zq y)), [], none, [], [], [], none⟩
 t := fun x α k => (if 0 <= (0 : Int) then (match x[(0 : Int).toNat]? with | some c1 => (match Jv c1 with | some e2 => (match zwI N (x, 1, ((⟨#[]⟩ : ByteArray), (⟨#[]⟩ : ByteArray), (⟨#[]⟩ : ByteArray), (⟨#[]⟩ : ByteArray), 0, 0, 0, 0, 0, ()), e2) with | some y13 => (k y13.2) | none => none) | none => none) | none => none) else none)
abbrev zrk (N : Nat) (x : qL) : Option (RT1) := (zkj N).d x
def zgE (N : Nat) : List (Nat × LSpec) := [(5, jF N)]
def zuA : Code := Tryd.f79.body.getD .skip
theorem zso (N : Nat) : Par (jF N).b := by
 intro x α β kn ke kn' ke' r r' h h1 h2
 revert h
 dsimp only [jF]
 (repeat' (first | (with_reducible refine ze ?_ ?_) | split)) <;> intro h <;> first | exact h1 _ h | exact h2 _ h | cases h
theorem znp (N : Nat) : jh (zn qP) (zAh N) zcI N (zgE N) 5 zuA (jF N) := fun x α kn ke => by kernel_rfl
theorem zn9 (N : Nat) : ZK qP zcI N (zgE N) 5 (zc 5 zuA) :=
 zD (zd qP) (zi _) zl zcI N (zgE N) 5 zuA (l := []) (by kernel_rfl) (by kernel_rfl) an (jF N) rfl (fun s x hc h => by dsimp only [jF] at h; exact zJ hc h (fun _ _ => rfl) rfl rfl rfl) (fun _ => rfl) (znp N) (zso N)
theorem zrh (N : Nat) : Zd (zkj N).t := by
 intro x α β k k' r r' h h1
 revert h
 dsimp only [zkj]
 (repeat' (first | (with_reducible refine ze ?_ ?_) | split)) <;> intro h <;> first | exact h1 _ h | cases h
theorem zvk (N : Nat) : Zh (zn qP) (zAh N) zcI (lam N (zgE N)) Tryd.f79 (zkj N) := fun x => by kernel_rfl
def zDj (N : Nat) : Ent qP := zA (zd qP) (zi _) zl 79 Tryd.f79 Tryd.func79 rfl zcI (lam N (zgE N)) (zm (l := [(5, zc 5 zuA)]) (al (zn9 N) an) (by kernel_rfl)) (zkj N) (fun _ => ⟨rfl, rfl⟩) (zvk N) (fun _ _ _ h => zw h (fun _ _ => rfl) (fun _ _ => rfl)) (zrh N)
def JN : Nat -> Keep × Keep := anF [(5, ⟨[4], [], [], [(0, 9)], [], [(3, 9)], [], [], false, none, []⟩, ⟨[], [], [], [], [], [(3, 9)], [], [], false, none, []⟩), (14, ⟨[3, 4, 5], [], [1000003], [(0, 9)], [], [], [], [1000003], false, none, []⟩, ⟨[3, 4, 5], [], [1000003], [(0, 9)], [], [], [], [1000003], false, none, []⟩)] [(100012, ([3], []))]
def zxA (N : Nat) : GamK := gam (P := qP) [zAq N]
def zaM (N : Nat) : LSpec where
 X := qL × Nat × Int × Int × qA
 Y := (qL × Nat × Int × Int × qA)
 p := fun s => rdS 68 0 [(0, .lst 9), (3, .vs0 1000003 9), (4, .int .i64), (5, .int .i64)] [(1000003, .tt)] s fun ⟨a0, a1, a2, a3, _⟩ ⟨a4, _⟩ => (a0, a1, a2, a3, a4)
 st := fun u14 => mkS 68 [(0, (AV.list 9 u14.1 none)), (3, (AV.vs 1000003 0 u14.2.1 9)), (4, (qI u14.2.2.1)), (5, (qI u14.2.2.2.1))] [(1000003, u14.2.2.2.2)] (JN 14).1.toks 0
 out := fun y => (.exit 2, mkS 68 [(0, (AV.list 9 y.1 none)), (3, (AV.vs 1000003 0 y.2.1 9)), (4, (qI y.2.2.1)), (5, (qI y.2.2.2.1))] [(1000003, y.2.2.2.2)] (JN 14).2.toks 0)
 b := fun u14 α kn ke => (match (decide (u14.2.2.2.1 > 0)) with | true => (if 0 <= (i64 (u14.2.2.2.1 - 1)) /\ (i64 (u14.2.2.2.1 - 1)) < (u14.2.1 : Int) then (match Jv (u14.2.2.2.2.drop ((0 + (i64 (u14.2.2.2.1 - 1)).toNat) * 9)) with | some e5 => (if 0 <= u14.2.2.1 then (match u14.1[u14.2.2.1.toNat]? with | some c6 => (match Jv c6 with | some e7 => (match zlx N (e5, e7) with | some y8 => (match (decide (y8 > 0)) with | true => (kn (u14.1, u14.2.1, u14.2.2.1, (i64 (u14.2.2.2.1 - 1)), (u14.2.2.2.2.map dat0))) | false => (ke (u14.1, u14.2.1, u14.2.2.1, u14.2.2.2.1, (u14.2.2.2.2.map dat0)))) | none => none) | none => none) | none => none) else none) | none => none) else none) | false => (ke (u14.1, u14.2.1, u14.2.2.1, u14.2.2.2.1, (u14.2.2.2.2.map dat0))))
abbrev zzo (N : Nat) (x : qL × Nat × Int × Int × qA) : Option ((qL × Nat × Int × Int × qA)) := (zaM N).L N x
def zdK (N : Nat) : LSpec where
 X := Nat × qL × Int × qA
 Y := (Nat × qA)
 p := fun s => rdS 68 0 [(3, .vs0 1000003 9), (0, .lst 9), (4, .int .i64)] [(1000003, .tt)] s fun ⟨a0, a1, a2, _⟩ ⟨a3, _⟩ => (a0, a1, a2, a3)
 st := fun u5 => mkS 68 [(3, (AV.vs 1000003 0 u5.1 9)), (0, (AV.list 9 u5.2.1 none)), (4, (qI u5.2.2.1))] [(1000003, u5.2.2.2)] (JN 5).1.toks 0
 out := fun y => (.exit 0, mkS 68 [(3, (AV.vs 1000003 0 y.1 9))] [(1000003, y.2)] (JN 5).2.toks 0)
 b := fun u5 α kn ke => (match (decide (u5.2.2.1 < (u5.2.1.length : Int))) with | true => (match zzo N (u5.2.1, u5.1, u5.2.2.1, ((u5.1 : Nat) : Int), (u5.2.2.2.map dat0)) with | some y9 => (match (decide (y9.2.2.2.1 > 0)) with | true => (if 0 <= (i64 (y9.2.2.2.1 - 1)) /\ (i64 (y9.2.2.2.1 - 1)) < (y9.2.1 : Int) then (match Jv (y9.2.2.2.2.drop ((0 + (i64 (y9.2.2.2.1 - 1)).toNat) * 9)) with | some e10 => (if 0 <= y9.2.2.1 then (match y9.1[y9.2.2.1.toNat]? with | some c11 => (match Jv c11 with | some e12 => (match (((e10.1 == e12.1) && ((e10.2.1 == e12.2.1) && ((e10.2.2.1 == e12.2.2.1) && ((e10.2.2.2.1 == e12.2.2.2.1) && true)))) && ((e10.2.2.2.2.1 == e12.2.2.2.2.1) && ((e10.2.2.2.2.2.1 == e12.2.2.2.2.2.1) && ((e10.2.2.2.2.2.2.1 == e12.2.2.2.2.2.2.1) && ((e10.2.2.2.2.2.2.2.1 == e12.2.2.2.2.2.2.2.1) && ((e10.2.2.2.2.2.2.2.2.1 == e12.2.2.2.2.2.2.2.2.1) && true)))))) with | true => (kn (y9.2.1, y9.1, (i64 (y9.2.2.1 + 1)), (y9.2.2.2.2.map dat0))) | false => (if 0 <= y9.2.2.1 then (match y9.1[y9.2.2.1.toNat]? with | some c13 => (match Jv c13 with | some e14 => (if y9.2.1 * 9 <= y9.2.2.2.2.length /\ (y9.2.1 + [(zq e14)].length) * 104 <= zh then (if 0 <= (i64 (y9.2.2.2.1 + 1)) /\ (i64 (y9.2.2.2.1 + 1)) <= (((y9.2.1 + [(zq e14)].length) : Nat) : Int) then (if 0 <= y9.2.2.2.1 /\ y9.2.2.2.1 <= (((y9.2.1 + [(zq e14)].length) : Nat) : Int) then (if ((0 + y9.2.2.2.1.toNat) + ((y9.2.1 + [(zq e14)].length) - y9.2.2.2.1.toNat)) * 9 <= (y9.2.2.2.2.take (y9.2.1 * 9) ++ [(zq e14)].flatten).length then (if ((0 + (i64 (y9.2.2.2.1 + 1)).toNat) + ((y9.2.1 + [(zq e14)].length) - (i64 (y9.2.2.2.1 + 1)).toNat)) * 9 <= (y9.2.2.2.2.take (y9.2.1 * 9) ++ [(zq e14)].flatten).length then (if 0 <= y9.2.2.1 then (match y9.1[y9.2.2.1.toNat]? with | some c15 => (match Jv c15 with | some e16 => (if 0 <= y9.2.2.2.1 /\ y9.2.2.2.1 < (((y9.2.1 + [(zq e14)].length) : Nat) : Int) then (if ((0 + y9.2.2.2.1.toNat) * 9) + 9 <= (splice (y9.2.2.2.2.take (y9.2.1 * 9) ++ [(zq e14)].flatten) ((0 + (i64 (y9.2.2.2.1 + 1)).toNat) * 9) (((y9.2.2.2.2.take (y9.2.1 * 9) ++ [(zq e14)].flatten).drop ((0 + y9.2.2.2.1.toNat) * 9)).take ((Nat.min ((y9.2.1 + [(zq e14)].length) - y9.2.2.2.1.toNat) ((y9.2.1 + [(zq e14)].length) - (i64 (y9.2.2.2.1 + 1)).toNat)) * 9))).length then (kn ((y9.2.1 + [(zq e14)].length), y9.1, (i64 (y9.2.2.1 + 1)), ((splice (splice (y9.2.2.2.2.take (y9.2.1 * 9) ++ [(zq e14)].flatten) ((0 + (i64 (y9.2.2.2.1 + 1)).toNat) * 9) (((y9.2.2.2.2.take (y9.2.1 * 9) ++ [(zq e14)].flatten).drop ((0 + y9.2.2.2.1.toNat) * 9)).take ((Nat.min ((y9.2.1 + [(zq e14)].length) - y9.2.2.2.1.toNat) ((y9.2.1 + [(zq e14)].length) - (i64 (y9.2.2.2.1 + 1)).toNat)) * 9))) ((0 + y9.2.2.2.1.toNat) * 9) (zq e16)).map dat0))) else none) else none) | none => none) | none => none) else none) else none) else none) else none) else none) else none) | none => none) | none => none) else none)) | none => none) | none => none) else none) | none => none) else none) | false => (if 0 <= y9.2.2.1 then (match y9.1[y9.2.2.1.toNat]? with | some c17 => (match Jv c17 with | some e18 => (if y9.2.1 * 9 <= y9.2.2.2.2.length /\ (y9.2.1 + [(zq e18)].length) * 104 <= zh then (if 0 <= (i64 (y9.2.2.2.1 + 1)) /\ (i64 (y9.2.2.2.1 + 1)) <= (((y9.2.1 + [(zq e18)].length) : Nat) : Int) then (if 0 <= y9.2.2.2.1 /\ y9.2.2.2.1 <= (((y9.2.1 + [(zq e18)].length) : Nat) : Int) then (if ((0 + y9.2.2.2.1.toNat) + ((y9.2.1 + [(zq e18)].length) - y9.2.2.2.1.toNat)) * 9 <= (y9.2.2.2.2.take (y9.2.1 * 9) ++ [(zq e18)].flatten).length then (if ((0 + (i64 (y9.2.2.2.1 + 1)).toNat) + ((y9.2.1 + [(zq e18)].length) - (i64 (y9.2.2.2.1 + 1)).toNat)) * 9 <= (y9.2.2.2.2.take (y9.2.1 * 9) ++ [(zq e18)].flatten).length then (if 0 <= y9.2.2.1 then (match y9.1[y9.2.2.1.toNat]? with | some c19 => (match Jv c19 with | some e20 => (if 0 <= y9.2.2.2.1 /\ y9.2.2.2.1 < (((y9.2.1 + [(zq e18)].length) : Nat) : Int) then (if ((0 + y9.2.2.2.1.toNat) * 9) + 9 <= (splice (y9.2.2.2.2.take (y9.2.1 * 9) ++ [(zq e18)].flatten) ((0 + (i64 (y9.2.2.2.1 + 1)).toNat) * 9) (((y9.2.2.2.2.take (y9.2.1 * 9) ++ [(zq e18)].flatten).drop ((0 + y9.2.2.2.1.toNat) * 9)).take ((Nat.min ((y9.2.1 + [(zq e18)].length) - y9.2.2.2.1.toNat) ((y9.2.1 + [(zq e18)].length) - (i64 (y9.2.2.2.1 + 1)).toNat)) * 9))).length then (kn ((y9.2.1 + [(zq e18)].length), y9.1, (i64 (y9.2.2.1 + 1)), ((splice (splice (y9.2.2.2.2.take (y9.2.1 * 9) ++ [(zq e18)].flatten) ((0 + (i64 (y9.2.2.2.1 + 1)).toNat) * 9) (((y9.2.2.2.2.take (y9.2.1 * 9) ++ [(zq e18)].flatten).drop ((0 + y9.2.2.2.1.toNat) * 9)).take ((Nat.min ((y9.2.1 + [(zq e18)].length) - y9.2.2.2.1.toNat) ((y9.2.1 + [(zq e18)].length) - (i64 (y9.2.2.2.1 + 1)).toNat)) * 9))) ((0 + y9.2.2.2.1.toNat) * 9) (zq e20)).map dat0))) else none) else none) | none => none) | none => none) else none) else none) else none) else none) else none) else none) | none => none) | none => none) else none)) | none => none) | false => (ke (u5.1, (u5.2.2.2.map dat0))))
abbrev zAS (N : Nat) (x : Nat × qL × Int × qA) : Option ((Nat × qA)) := (zdK N).L N x
def znl (N : Nat) : FSpec where
 X := qL
 Y := qL
 ash := [[some 9]]
 S := ⟨[[some 2000009]], [], [], [], []⟩
 pat := fun a b => rdA [.lst 9] [] a b fun ⟨a0, _⟩ _ => a0
 args := fun x => [(AV.list 9 x none)]
 ret := fun y => ⟨(AV.list 9 y (some 2560000000)), [], none, [], [2560000000], [], none⟩
 t := fun x α k => (match zAS N (0, x, 0, ([] : List AV)) with | some y21 => (if y21.1 * 9 <= y21.2.length then (k (zK (y21.2.take (y21.1 * 9)) 9 y21.1)) else none) | none => none)
abbrev zhQ (N : Nat) (x : qL) : Option (qL) := (znl N).d x
def zbG (N : Nat) : List (Nat × LSpec) := [(5, zdK N), (14, zaM N)]
def zfv : Code := Tryd.f80.body.getD .skip
theorem zmf (N : Nat) : Par (zaM N).b := by
 intro x α β kn ke kn' ke' r r' h h1 h2
 revert h
 dsimp only [zaM]
 (repeat' (first | (with_reducible refine ze ?_ ?_) | split)) <;> intro h <;> first | exact h1 _ h | exact h2 _ h | cases h
theorem zk1 (N : Nat) : jh (JT qP [51]) (zxA N) JN N (zbG N) 14 zfv (zaM N) := fun x α kn ke => by kernel_rfl
theorem zeN (N : Nat) : ZK qP JN N (zbG N) 14 (zc 14 zfv) :=
 zD (zL qP [51]) (zi _) zl JN N (zbG N) 14 zfv (l := []) (by kernel_rfl) (by kernel_rfl) an (zaM N) rfl (fun s x hc h => by dsimp only [zaM] at h; exact zJ hc h (fun _ _ => rfl) rfl rfl rfl) (fun _ => rfl) (zk1 N) (zmf N)
theorem zsM (N : Nat) : Par (zdK N).b := by
 intro x α β kn ke kn' ke' r r' h h1 h2
 revert h
 dsimp only [zdK]
 (repeat' (first | (with_reducible refine ze ?_ ?_) | split)) <;> intro h <;> first | exact h1 _ h | exact h2 _ h | cases h
theorem zoy (N : Nat) : jh (JT qP [51]) (zxA N) JN N (zbG N) 5 zfv (zdK N) := fun x α kn ke => by kernel_rfl
theorem zoh (N : Nat) : ZK qP JN N (zbG N) 5 (zc 5 zfv) :=
 zD (zL qP [51]) (zi _) zl JN N (zbG N) 5 zfv (l := [(14, zc 14 zfv)]) (by kernel_rfl) (by kernel_rfl) (al (zeN N) an) (zdK N) rfl (fun s x hc h => by dsimp only [zdK] at h; exact zJ hc h (fun _ _ => rfl) rfl rfl rfl) (fun _ => rfl) (zoy N) (zsM N)
theorem zu6 (N : Nat) : Zd (znl N).t := by
 intro x α β k k' r r' h h1
 revert h
 dsimp only [znl]
 (repeat' (first | (with_reducible refine ze ?_ ?_) | split)) <;> intro h <;> first | exact h1 _ h | cases h
theorem zuX (N : Nat) : Zh (JT qP [51]) (zxA N) JN (lam N (zbG N)) Tryd.f80 (znl N) := fun x => by kernel_rfl
def zDq (N : Nat) : Ent qP := zA (zL qP [51]) (zi _) zl 80 Tryd.f80 Tryd.func80 rfl JN (lam N (zbG N)) (zm (l := [(5, zc 5 zfv), (14, zc 14 zfv)]) (al (zoh N) (al (zeN N) an)) (by kernel_rfl)) (znl N) (fun _ => ⟨rfl, rfl⟩) (zuX N) (fun _ _ _ h => zw h (fun _ _ => rfl) (fun _ _ => rfl)) (zu6 N)
def zbJ : Nat -> Keep × Keep := anL [(8, ⟨[5], [], [], [(0, 9), (1, 9)], [], [], [], [], false, none, []⟩, qK [4] [] [])]
def zBz (N : Nat) : GamK := gam (P := qP) []
def ja (N : Nat) : LSpec where
 X := qL × qL × Int
 Y := (Bool) ⊕ (Unit)
 p := fun s => rdS 26 0 [(0, .lst 9), (1, .lst 9), (5, .int .i64)] [] s fun ⟨a0, a1, a2, _⟩ _ => (a0, a1, a2)
 st := fun u8 => mkS 26 [(0, (AV.list 9 u8.1 none)), (1, (AV.list 9 u8.2.1 none)), (5, (qI u8.2.2))] [] (zbJ 8).1.toks 0
 out := fun y => match y with
  | .inl y => (.ret, mkS 26 [(4, (AV.v (.bool y)))] [] (zbJ 8).2.toks 0)
  | .inr y => (.exit 0, mkS 26 [] [] (zbJ 8).2.toks 0)
 b := fun u8 α kn ke => (match (decide (u8.2.2 < (u8.1.length : Int))) with | true => (if 0 <= u8.2.2 then (match u8.1[u8.2.2.toNat]? with | some c1 => (match Jv c1 with | some e2 => (if 0 <= u8.2.2 then (match u8.2.1[u8.2.2.toNat]? with | some c3 => (match Jv c3 with | some e4 => (match (!(((e2.1 == e4.1) && ((e2.2.1 == e4.2.1) && ((e2.2.2.1 == e4.2.2.1) && ((e2.2.2.2.1 == e4.2.2.2.1) && true)))) && ((e2.2.2.2.2.1 == e4.2.2.2.2.1) && ((e2.2.2.2.2.2.1 == e4.2.2.2.2.2.1) && ((e2.2.2.2.2.2.2.1 == e4.2.2.2.2.2.2.1) && ((e2.2.2.2.2.2.2.2.1 == e4.2.2.2.2.2.2.2.1) && ((e2.2.2.2.2.2.2.2.2.1 == e4.2.2.2.2.2.2.2.2.1) && true))))))) with | true => (ke (.inl false)) | false => (kn (u8.1, u8.2.1, (i64 (u8.2.2 + 1))))) | none => none) | none => none) else none) | none => none) | none => none) else none) | false => (ke (.inr ())))
abbrev zwF (N : Nat) (x : qL × qL × Int) : Option ((Bool) ⊕ (Unit)) := (ja N).L N x
def zkd (N : Nat) : FSpec where
 X := qL × qL
 Y := Bool
 ash := [[some 9], [some 9]]
 S := ⟨[[none]], [], [], [], []⟩
 pat := fun a b => rdA [.lst 9, .lst 9] [] a b fun ⟨a0, a1, _⟩ _ => (a0, a1)
 args := fun x => [(AV.list 9 x.1 none), (AV.list 9 x.2 none)]
 ret := fun y => ⟨(AV.v (.bool y)), [], none, [], [], [], none⟩
 t := fun x α k => (match ((x.1.length : Int) != (x.2.length : Int)) with | true => (k false) | false => (match zwF N (x.1, x.2, 0) with | some y5 => (match y5 with | .inl z6 => (k z6) | .inr z7 => (k true)) | none => none))
abbrev zib (N : Nat) (x : qL × qL) : Option (Bool) := (zkd N).d x
def zhk (N : Nat) : List (Nat × LSpec) := [(8, ja N)]
def zvG : Code := Tryd.f74.body.getD .skip
theorem zuE (N : Nat) : Par (ja N).b := by
 intro x α β kn ke kn' ke' r r' h h1 h2
 revert h
 dsimp only [ja]
 (repeat' (first | (with_reducible refine ze ?_ ?_) | split)) <;> intro h <;> first | exact h1 _ h | exact h2 _ h | cases h
theorem zoq (N : Nat) : jh (zn qP) (zBz N) zbJ N (zhk N) 8 zvG (ja N) := fun x α kn ke => by kernel_rfl
theorem zod (N : Nat) : ZK qP zbJ N (zhk N) 8 (zc 8 zvG) :=
 zD (zd qP) (zi _) zl zbJ N (zhk N) 8 zvG (l := []) (by kernel_rfl) (by kernel_rfl) an (ja N) rfl (fun s x hc h => by dsimp only [ja] at h; exact zJ hc h (fun _ _ => rfl) rfl rfl rfl) (fun _ => rfl) (zoq N) (zuE N)
theorem zuP (N : Nat) : Zd (zkd N).t := by
 intro x α β k k' r r' h h1
 revert h
 dsimp only [zkd]
 (repeat' (first | (with_reducible refine ze ?_ ?_) | split)) <;> intro h <;> first | exact h1 _ h | cases h
theorem zt8 (N : Nat) : Zh (zn qP) (zBz N) zbJ (lam N (zhk N)) Tryd.f74 (zkd N) := fun x => by kernel_rfl
def zA5 (N : Nat) : Ent qP := zA (zd qP) (zi _) zl 74 Tryd.f74 Tryd.func74 rfl zbJ (lam N (zhk N)) (zm (l := [(8, zc 8 zvG)]) (al (zod N) an) (by kernel_rfl)) (zkd N) (fun _ => ⟨rfl, rfl⟩) (zt8 N) (fun _ _ _ h => zw h (fun _ _ => rfl) (fun _ _ => rfl)) (zuP N)
def Je : Nat -> Keep × Keep := anL [(4, ⟨[5], [], [], [(0, 9), (1, 9)], [], [], [], [], false, none, []⟩, qK [4] [] []), (12, ⟨[5, 6], [], [], [(0, 9), (1, 9)], [], [], [], [], false, none, []⟩, ⟨[4, 5], [], [], [(0, 9), (1, 9)], [], [], [], [], false, none, []⟩)]
def zzG (N : Nat) : GamK := gam (P := qP) []
def ZB (N : Nat) : LSpec where
 X := qL × qL × Int × Int
 Y := (qL × qL × Bool × Int) ⊕ (qL × qL × Int)
 p := fun s => rdS 28 0 [(0, .lst 9), (1, .lst 9), (5, .int .i64), (6, .int .i64)] [] s fun ⟨a0, a1, a2, a3, _⟩ _ => (a0, a1, a2, a3)
 st := fun u12 => mkS 28 [(0, (AV.list 9 u12.1 none)), (1, (AV.list 9 u12.2.1 none)), (5, (qI u12.2.2.1)), (6, (qI u12.2.2.2))] [] (Je 12).1.toks 0
 out := fun y => match y with
  | .inl y => (.ret, mkS 28 [(0, (AV.list 9 y.1 none)), (1, (AV.list 9 y.2.1 none)), (4, (AV.v (.bool y.2.2.1))), (5, (qI y.2.2.2))] [] (Je 12).2.toks 0)
  | .inr y => (.exit 2, mkS 28 [(0, (AV.list 9 y.1 none)), (1, (AV.list 9 y.2.1 none)), (5, (qI y.2.2))] [] (Je 12).2.toks 0)
 b := fun u12 α kn ke => (match (decide (u12.2.2.2 < (u12.2.1.length : Int))) with | true => (if 0 <= u12.2.2.1 then (match u12.1[u12.2.2.1.toNat]? with | some c1 => (match Jv c1 with | some e2 => (if 0 <= u12.2.2.2 then (match u12.2.1[u12.2.2.2.toNat]? with | some c3 => (match Jv c3 with | some e4 => (match (((e2.1 == e4.1) && ((e2.2.1 == e4.2.1) && ((e2.2.2.1 == e4.2.2.1) && ((e2.2.2.2.1 == e4.2.2.2.1) && true)))) && ((e2.2.2.2.2.1 == e4.2.2.2.2.1) && ((e2.2.2.2.2.2.1 == e4.2.2.2.2.2.1) && ((e2.2.2.2.2.2.2.1 == e4.2.2.2.2.2.2.1) && ((e2.2.2.2.2.2.2.2.1 == e4.2.2.2.2.2.2.2.1) && ((e2.2.2.2.2.2.2.2.2.1 == e4.2.2.2.2.2.2.2.2.1) && true)))))) with | true => (ke (.inl (u12.1, u12.2.1, true, u12.2.2.1))) | false => (kn (u12.1, u12.2.1, u12.2.2.1, (i64 (u12.2.2.2 + 1))))) | none => none) | none => none) else none) | none => none) | none => none) else none) | false => (ke (.inr (u12.1, u12.2.1, u12.2.2.1))))
abbrev zht (N : Nat) (x : qL × qL × Int × Int) : Option ((qL × qL × Bool × Int) ⊕ (qL × qL × Int)) := (ZB N).L N x
def Z7 (N : Nat) : LSpec where
 X := qL × qL × Int
 Y := (Bool) ⊕ (Unit)
 p := fun s => rdS 28 0 [(0, .lst 9), (1, .lst 9), (5, .int .i64)] [] s fun ⟨a0, a1, a2, _⟩ _ => (a0, a1, a2)
 st := fun u4 => mkS 28 [(0, (AV.list 9 u4.1 none)), (1, (AV.list 9 u4.2.1 none)), (5, (qI u4.2.2))] [] (Je 4).1.toks 0
 out := fun y => match y with
  | .inl y => (.ret, mkS 28 [(4, (AV.v (.bool y)))] [] (Je 4).2.toks 0)
  | .inr y => (.exit 0, mkS 28 [] [] (Je 4).2.toks 0)
 b := fun u4 α kn ke => (match (decide (u4.2.2 < (u4.1.length : Int))) with | true => (match zht N (u4.1, u4.2.1, u4.2.2, 0) with | some y5 => (match y5 with | .inl z6 => (ke (.inl z6.2.2.1)) | .inr z7 => (kn (z7.1, z7.2.1, (i64 (z7.2.2 + 1))))) | none => none) | false => (ke (.inr ())))
abbrev zwh (N : Nat) (x : qL × qL × Int) : Option ((Bool) ⊕ (Unit)) := (Z7 N).L N x
def zjQ (N : Nat) : FSpec where
 X := qL × qL
 Y := Bool
 ash := [[some 9], [some 9]]
 S := ⟨[[none]], [], [], [], []⟩
 pat := fun a b => rdA [.lst 9, .lst 9] [] a b fun ⟨a0, a1, _⟩ _ => (a0, a1)
 args := fun x => [(AV.list 9 x.1 none), (AV.list 9 x.2 none)]
 ret := fun y => ⟨(AV.v (.bool y)), [], none, [], [], [], none⟩
 t := fun x α k => (match zwh N (x.1, x.2, 0) with | some y8 => (match y8 with | .inl z9 => (k z9) | .inr z10 => (k false)) | none => none)
abbrev zzl (N : Nat) (x : qL × qL) : Option (Bool) := (zjQ N).d x
def zbS (N : Nat) : List (Nat × LSpec) := [(4, Z7 N), (12, ZB N)]
def zeY : Code := Tryd.f82.body.getD .skip
theorem zmW (N : Nat) : Par (ZB N).b := by
 intro x α β kn ke kn' ke' r r' h h1 h2
 revert h
 dsimp only [ZB]
 (repeat' (first | (with_reducible refine ze ?_ ?_) | split)) <;> intro h <;> first | exact h1 _ h | exact h2 _ h | cases h
theorem zjP (N : Nat) : jh (zn qP) (zzG N) Je N (zbS N) 12 zeY (ZB N) := fun x α kn ke => by kernel_rfl
theorem zeP (N : Nat) : ZK qP Je N (zbS N) 12 (zc 12 zeY) :=
 zD (zd qP) (zi _) zl Je N (zbS N) 12 zeY (l := []) (by kernel_rfl) (by kernel_rfl) an (ZB N) rfl (fun s x hc h => by dsimp only [ZB] at h; exact zJ hc h (fun _ _ => rfl) rfl rfl rfl) (fun _ => rfl) (zjP N) (zmW N)
theorem ztM (N : Nat) : Par (Z7 N).b := by
 intro x α β kn ke kn' ke' r r' h h1 h2
 revert h
 dsimp only [Z7]
 (repeat' (first | (with_reducible refine ze ?_ ?_) | split)) <;> intro h <;> first | exact h1 _ h | exact h2 _ h | cases h
theorem zmB (N : Nat) : jh (zn qP) (zzG N) Je N (zbS N) 4 zeY (Z7 N) := fun x α kn ke => by kernel_rfl
theorem zoz (N : Nat) : ZK qP Je N (zbS N) 4 (zc 4 zeY) :=
 zD (zd qP) (zi _) zl Je N (zbS N) 4 zeY (l := [(12, zc 12 zeY)]) (by kernel_rfl) (by kernel_rfl) (al (zeP N) an) (Z7 N) rfl (fun s x hc h => by dsimp only [Z7] at h; exact zJ hc h (fun _ _ => rfl) rfl rfl rfl) (fun _ => rfl) (zmB N) (ztM N)
theorem ztC (N : Nat) : Zd (zjQ N).t := by
 intro x α β k k' r r' h h1
 revert h
 dsimp only [zjQ]
 (repeat' (first | (with_reducible refine ze ?_ ?_) | split)) <;> intro h <;> first | exact h1 _ h | cases h
theorem zqA (N : Nat) : Zh (zn qP) (zzG N) Je (lam N (zbS N)) Tryd.f82 (zjQ N) := fun x => by kernel_rfl
def zDZ (N : Nat) : Ent qP := zA (zd qP) (zi _) zl 82 Tryd.f82 Tryd.func82 rfl Je (lam N (zbS N)) (zm (l := [(4, zc 4 zeY), (12, zc 12 zeY)]) (al (zoz N) (al (zeP N) an)) (by kernel_rfl)) (zjQ N) (fun _ => ⟨rfl, rfl⟩) (zqA N) (fun _ _ _ h => zw h (fun _ _ => rfl) (fun _ _ => rfl)) (ztC N)
def j8 : Nat -> Keep × Keep := anL [(4, ⟨[3], [], [], [(0, 25)], [], [], [], [], false, none, []⟩, qK [2] [] []), (17, ⟨[3, 5], [], [], [(0, 25), (4, 9)], [], [], [], [], false, none, []⟩, ⟨[2, 3], [], [], [(0, 25)], [], [], [], [], false, none, []⟩)]
def zyT (N : Nat) : GamK := gam (P := qP) [zDj N, zDq N, zA5 N, zBw N, zDZ N]
def ZA (N : Nat) : LSpec where
 X := qL × qL × Int × Int
 Y := (qL × Bool × Int) ⊕ (qL × Int)
 p := fun s => rdS 70 0 [(0, .lst 25), (4, .lst 9), (3, .int .i64), (5, .int .i64)] [] s fun ⟨a0, a1, a2, a3, _⟩ _ => (a0, a1, a2, a3)
 st := fun u17 => mkS 70 [(0, (AV.list 25 u17.1 none)), (4, (AV.list 9 u17.2.1 none)), (3, (qI u17.2.2.1)), (5, (qI u17.2.2.2))] [] (j8 17).1.toks 0
 out := fun y => match y with
  | .inl y => (.ret, mkS 70 [(0, (AV.list 25 y.1 none)), (2, (AV.v (.bool y.2.1))), (3, (qI y.2.2))] [] (j8 17).2.toks 0)
  | .inr y => (.exit 2, mkS 70 [(0, (AV.list 25 y.1 none)), (3, (qI y.2))] [] (j8 17).2.toks 0)
 b := fun u17 α kn ke => (match (decide (u17.2.2.2 < u17.2.2.1)) with | true => (if 0 <= u17.2.2.2 then (match u17.1[u17.2.2.2.toNat]? with | some c14 => (match ((c14.drop 9).drop 0)[0]? with | some x15 => (match Z2 9 x15 with | some l16 => (match zzl N (u17.2.1, l16) with | some y17 => (match y17 with | true => (ke (.inl (u17.1, false, u17.2.2.1))) | false => (kn (u17.1, u17.2.1, u17.2.2.1, (i64 (u17.2.2.2 + 1))))) | none => none) | none => none) | none => none) | none => none) else none) | false => (ke (.inr (u17.1, u17.2.2.1))))
abbrev zcN (N : Nat) (x : qL × qL × Int × Int) : Option ((qL × Bool × Int) ⊕ (qL × Int)) := (ZA N).L N x
def ZJ (N : Nat) : LSpec where
 X := qL × Int
 Y := (Bool) ⊕ (Unit)
 p := fun s => rdS 70 0 [(0, .lst 25), (3, .int .i64)] [] s fun ⟨a0, a1, _⟩ _ => (a0, a1)
 st := fun u4 => mkS 70 [(0, (AV.list 25 u4.1 none)), (3, (qI u4.2))] [] (j8 4).1.toks 0
 out := fun y => match y with
  | .inl y => (.ret, mkS 70 [(2, (AV.v (.bool y)))] [] (j8 4).2.toks 0)
  | .inr y => (.exit 0, mkS 70 [] [] (j8 4).2.toks 0)
 b := fun u4 α kn ke => (match (decide (u4.2 < (u4.1.length : Int))) with | true => (if 0 <= u4.2 then (match u4.1[u4.2.toNat]? with | some c1 => (match ((c1.drop 9).drop 0)[0]? with | some x2 => (match Z2 9 x2 with | some l3 => (match ((l3.length : Int) == 0) with | true => (ke (.inl false)) | false => (if 0 <= u4.2 then (match u4.1[u4.2.toNat]? with | some c4 => (match Jv (c4.drop 0) with | some e5 => (match zrk N l3 with | some y6 => (match (!(((e5.1 == y6.1) && ((e5.2.1 == y6.2.1) && ((e5.2.2.1 == y6.2.2.1) && ((e5.2.2.2.1 == y6.2.2.2.1) && true)))) && ((e5.2.2.2.2.1 == y6.2.2.2.2.1) && ((e5.2.2.2.2.2.1 == y6.2.2.2.2.2.1) && ((e5.2.2.2.2.2.2.1 == y6.2.2.2.2.2.2.1) && ((e5.2.2.2.2.2.2.2.1 == y6.2.2.2.2.2.2.2.1) && ((e5.2.2.2.2.2.2.2.2.1 == y6.2.2.2.2.2.2.2.2.1) && true))))))) with | true => (ke (.inl false)) | false => (match zhQ N l3 with | some y7 => (match zib N (l3, y7) with | some y8 => (match (!y8) with | true => (ke (.inl false)) | false => (match (decide (u4.2 > 0)) with | true => (if 0 <= (i64 (u4.2 - 1)) then (match u4.1[(i64 (u4.2 - 1)).toNat]? with | some c9 => (match Jv (c9.drop 0) with | some e10 => (if 0 <= u4.2 then (match u4.1[u4.2.toNat]? with | some c11 => (match Jv (c11.drop 0) with | some e12 => (match zmQ N (e10, e12) with | some y13 => (match (decide (y13 >= 0)) with | true => (ke (.inl false)) | false => (match zcN N (u4.1, l3, u4.2, 0) with | some y18 => (match y18 with | .inl z19 => (ke (.inl z19.2.1)) | .inr z20 => (kn (z20.1, (i64 (z20.2 + 1))))) | none => none)) | none => none) | none => none) | none => none) else none) | none => none) | none => none) else none) | false => (match zcN N (u4.1, l3, u4.2, 0) with | some y21 => (match y21 with | .inl z22 => (ke (.inl z22.2.1)) | .inr z23 => (kn (z23.1, (i64 (z23.2 + 1))))) | none => none))) | none => none) | none => none)) | none => none) | none => none) | none => none) else none)) | none => none) | none => none) | none => none) else none) | false => (ke (.inr ())))
abbrev zmE (N : Nat) (x : qL × Int) : Option ((Bool) ⊕ (Unit)) := (ZJ N).L N x
def zhC (N : Nat) : FSpec where
 X := qL
 Y := Bool
 ash := [[some 25]]
 S := ⟨[[none]], [], [], [], []⟩
 pat := fun a b => rdA [.lst 25] [] a b fun ⟨a0, _⟩ _ => a0
 args := fun x => [(AV.list 25 x none)]
 ret := fun y => ⟨(AV.v (.bool y)), [], none, [], [], [], none⟩
 t := fun x α k => (match zmE N (x, 0) with | some y24 => (match y24 with | .inl z25 => (k z25) | .inr z26 => (k true)) | none => none)
abbrev zcF (N : Nat) (x : qL) : Option (Bool) := (zhC N).d x
def zb5 (N : Nat) : List (Nat × LSpec) := [(4, ZJ N), (17, ZA N)]
def zfJ : Code := Tryd.f56.body.getD .skip
theorem zpV (N : Nat) : Par (ZA N).b := by
 intro x α β kn ke kn' ke' r r' h h1 h2
 revert h
 dsimp only [ZA]
 (repeat' (first | (with_reducible refine ze ?_ ?_) | split)) <;> intro h <;> first | exact h1 _ h | exact h2 _ h | cases h
theorem zlF (N : Nat) : jh (zn qP) (zyT N) j8 N (zb5 N) 17 zfJ (ZA N) := fun x α kn ke => by kernel_rfl
theorem zeB (N : Nat) : ZK qP j8 N (zb5 N) 17 (zc 17 zfJ) :=
 zD (zd qP) (zi _) zl j8 N (zb5 N) 17 zfJ (l := []) (by kernel_rfl) (by kernel_rfl) an (ZA N) rfl (fun s x hc h => by dsimp only [ZA] at h; exact zJ hc h (fun _ _ => rfl) rfl rfl rfl) (fun _ => rfl) (zlF N) (zpV N)
theorem zqY (N : Nat) : Par (ZJ N).b := by
 intro x α β kn ke kn' ke' r r' h h1 h2
 revert h
 dsimp only [ZJ]
 (repeat' (first | (with_reducible refine ze ?_ ?_) | split)) <;> intro h <;> first | exact h1 _ h | exact h2 _ h | cases h
theorem zpK (N : Nat) : jh (zn qP) (zyT N) j8 N (zb5 N) 4 zfJ (ZJ N) := fun x α kn ke => by kernel_rfl
theorem zn2 (N : Nat) : ZK qP j8 N (zb5 N) 4 (zc 4 zfJ) :=
 zD (zd qP) (zi _) zl j8 N (zb5 N) 4 zfJ (l := [(17, zc 17 zfJ)]) (by kernel_rfl) (by kernel_rfl) (al (zeB N) an) (ZJ N) rfl (fun s x hc h => by dsimp only [ZJ] at h; exact zJ hc h (fun _ _ => rfl) rfl rfl rfl) (fun _ => rfl) (zpK N) (zqY N)
theorem zqJ (N : Nat) : Zd (zhC N).t := by
 intro x α β k k' r r' h h1
 revert h
 dsimp only [zhC]
 (repeat' (first | (with_reducible refine ze ?_ ?_) | split)) <;> intro h <;> first | exact h1 _ h | cases h
theorem zqX (N : Nat) : Zh (zn qP) (zyT N) j8 (lam N (zb5 N)) Tryd.f56 (zhC N) := fun x => by kernel_rfl
def zx8 (N : Nat) : Ent qP := zA (zd qP) (zi _) zl 56 Tryd.f56 Tryd.func56 rfl j8 (lam N (zb5 N)) (zm (l := [(4, zc 4 zfJ), (17, zc 17 zfJ)]) (al (zn2 N) (al (zeB N) an)) (by kernel_rfl)) (zhC N) (fun _ => ⟨rfl, rfl⟩) (zqX N) (fun _ _ _ h => zw h (fun _ _ => rfl) (fun _ _ => rfl)) (zqJ N)
abbrev RK6 : List Ck := [.sl 29]
abbrev RT6 : Type := qL × Unit
def zfU (c : List AV) : Option RT6 := dec RK6 c
abbrev RK7 : List Ck := [.int .i64, .int .i64, .str, .int .i64, .str, .str, .str, .str, .int .i64, .int .i64, .int .i64, .int .i64, .int .i64, .sl 9, .int .i64, .int .i64, .int .i64, .int .i64, .int .i64, .int .i64, .int .i64, .int .i64, .int .i64, .int .i64, .int .i64, .int .i64, .int .i64, .int .i64, .int .i64]
abbrev RT7 : Type := Int × Int × ByteArray × Int × ByteArray × ByteArray × ByteArray × ByteArray × Int × Int × Int × Int × Int × qL × Int × Int × Int × Int × Int × Int × Int × Int × Int × Int × Int × Int × Int × Int × Int × Unit
def zlh (c : List AV) : Option RT7 := dec RK7 c
def zN (e : RT7) : List AV := enc RK7 e
theorem zzx (e : RT7) : zlh (zN e) = some e := zfj (ks := RK7) e rfl
@[reducible] def zx (e : RT7) : RT0 := (e.2.2.2.2)
def zwY : Nat -> Keep × Keep := anL []
def zEh (N : Nat) : GamK := gam (P := qP) []
def zkW (N : Nat) : FSpec where
 X := RT7
 Y := Bool
 ash := [[none, none, none, none, none, none, none, none, none, none, none, none, none, some 9, none, none, none, none, none, none, none, none, none, none, none, none, none, none, none]]
 S := ⟨[[none]], [], [], [], []⟩
 pat := fun a b => rdA [.agg RK7] [] a b fun ⟨a0, _⟩ _ => a0
 args := fun x => [(AV.agg (zN x))]
 ret := fun y => ⟨(AV.v (.bool y)), [], none, [], [], [], none⟩
 t := fun x α k => (match (x.1 == 1) with | true => (k true) | false => (match (x.1 == 2) with | true => (k true) | false => (k (x.1 == 6))))
abbrev zhA (N : Nat) (x : RT7) : Option (Bool) := (zkW N).d x
theorem ztN (N : Nat) : Zd (zkW N).t := by
 intro x α β k k' r r' h h1
 revert h
 dsimp only [zkW]
 (repeat' (first | (with_reducible refine ze ?_ ?_) | split)) <;> intro h <;> first | exact h1 _ h | cases h
theorem zuJ (N : Nat) : Zh (zn qP) (zEh N) zwY (lam N []) Tryd.f15 (zkW N) := fun x => by kernel_rfl
def zzs (N : Nat) : Ent qP := zA (zd qP) (zi _) zl 15 Tryd.f15 Tryd.func15 rfl zwY (lam N []) (zm (l := []) an (by kernel_rfl)) (zkW N) (fun _ => ⟨rfl, rfl⟩) (zuJ N) (fun _ _ _ h => zw h (fun _ _ => rfl) (fun _ _ => rfl)) (ztN N)
def zwn : Nat -> Keep × Keep := anL []
def zD6 (N : Nat) : GamK := gam (P := qP) [zzs N]
def zkw (N : Nat) : FSpec where
 X := RT7 × RT7
 Y := Bool
 ash := [[none, none, none, none, none, none, none, none, none, none, none, none, none, some 9, none, none, none, none, none, none, none, none, none, none, none, none, none, none, none], [none, none, none, none, none, none, none, none, none, none, none, none, none, some 9, none, none, none, none, none, none, none, none, none, none, none, none, none, none, none]]
 S := ⟨[[none]], [], [], [], []⟩
 pat := fun a b => rdA [.agg RK7, .agg RK7] [] a b fun ⟨a0, a1, _⟩ _ => (a0, a1)
 args := fun x => [(AV.agg (zN x.1)), (AV.agg (zN x.2))]
 ret := fun y => ⟨(AV.v (.bool y)), [], none, [], [], [], none⟩
 t := fun x α k => (match (x.1.1 == 1) with | true => (match zhA N x.2 with | some y1 => (k y1) | none => none) | false => (match (x.1.1 == 2) with | true => (match (x.2.1 == 1) with | true => (k true) | false => (k (x.2.1 == 6))) | false => (match (x.1.1 == 6) with | true => (match zhA N x.2 with | some y2 => (k (!y2)) | none => none) | false => (k true))))
abbrev zkt (N : Nat) (x : RT7 × RT7) : Option (Bool) := (zkw N).d x
theorem zrB (N : Nat) : Zd (zkw N).t := by
 intro x α β k k' r r' h h1
 revert h
 dsimp only [zkw]
 (repeat' (first | (with_reducible refine ze ?_ ?_) | split)) <;> intro h <;> first | exact h1 _ h | cases h
theorem zuB (N : Nat) : Zh (zn qP) (zD6 N) zwn (lam N []) Tryd.f96 (zkw N) := fun x => by kernel_rfl
def zDb (N : Nat) : Ent qP := zA (zd qP) (zi _) zl 96 Tryd.f96 Tryd.func96 rfl zwn (lam N []) (zm (l := []) an (by kernel_rfl)) (zkw N) (fun _ => ⟨rfl, rfl⟩) (zuB N) (fun _ _ _ h => zw h (fun _ _ => rfl) (fun _ _ => rfl)) (zrB N)
def zws : Nat -> Keep × Keep := anL []
def zDw (N : Nat) : GamK := gam (P := qP) []
def zjS (N : Nat) : FSpec where
 X := Int
 Y := Bool
 ash := [[none]]
 S := ⟨[[none]], [], [], [], []⟩
 pat := fun a b => rdA [.int .i64] [] a b fun ⟨a0, _⟩ _ => a0
 args := fun x => [(AV.v (.int .i64 x))]
 ret := fun y => ⟨(AV.v (.bool y)), [], none, [], [], [], none⟩
 t := fun x α k => (match (x != 1) with | true => (k (x != 3)) | false => (k false))
abbrev zig (N : Nat) (x : Int) : Option (Bool) := (zjS N).d x
theorem zuS (N : Nat) : Zd (zjS N).t := by
 intro x α β k k' r r' h h1
 revert h
 dsimp only [zjS]
 (repeat' (first | (with_reducible refine ze ?_ ?_) | split)) <;> intro h <;> first | exact h1 _ h | cases h
theorem zq6 (N : Nat) : Zh (zn qP) (zDw N) zws (lam N []) Tryd.f77 (zjS N) := fun x => by kernel_rfl
def zAf (N : Nat) : Ent qP := zA (zd qP) (zi _) zl 77 Tryd.f77 Tryd.func77 rfl zws (lam N []) (zm (l := []) an (by kernel_rfl)) (zjS N) (fun _ => ⟨rfl, rfl⟩) (zq6 N) (fun _ _ _ h => zw h (fun _ _ => rfl) (fun _ _ => rfl)) (zuS N)
def zwW : Nat -> Keep × Keep := anL []
def zCT (N : Nat) : GamK := gam (P := qP) [zA5 N]
def zlM (N : Nat) : FSpec where
 X := RT3 × RT3
 Y := Bool
 ash := [[some 9, none, none, none, none, none, none, none, none, none, none, none, none, none, none, none], [some 9, none, none, none, none, none, none, none, none, none, none, none, none, none, none, none]]
 S := ⟨[[none]], [], [], [], []⟩
 pat := fun a b => rdA [.agg RK3, .agg RK3] [] a b fun ⟨a0, a1, _⟩ _ => (a0, a1)
 args := fun x => [(AV.agg (zCs x.1)), (AV.agg (zCs x.2))]
 ret := fun y => ⟨(AV.v (.bool y)), [], none, [], [], [], none⟩
 t := fun x α k => (match zib N (x.1.1, x.2.1) with | some y1 => (match y1 with | true => (match (((x.1.2.1 == x.2.2.1) && ((x.1.2.2.1 == x.2.2.2.1) && ((x.1.2.2.2.1 == x.2.2.2.2.1) && true))) && ((x.1.2.2.2.2.1 == x.2.2.2.2.2.1) && ((x.1.2.2.2.2.2.1 == x.2.2.2.2.2.2.1) && ((x.1.2.2.2.2.2.2.1 == x.2.2.2.2.2.2.2.1) && ((((x.1.2.2.2.2.2.2.2.1 == x.2.2.2.2.2.2.2.2.1) && ((x.1.2.2.2.2.2.2.2.2.1 == x.2.2.2.2.2.2.2.2.2.1) && ((x.1.2.2.2.2.2.2.2.2.2.1 == x.2.2.2.2.2.2.2.2.2.2.1) && true))) && (((x.1.2.2.2.2.2.2.2.2.2.2.1 == x.2.2.2.2.2.2.2.2.2.2.2.1) && ((x.1.2.2.2.2.2.2.2.2.2.2.2.1 == x.2.2.2.2.2.2.2.2.2.2.2.2.1) && ((x.1.2.2.2.2.2.2.2.2.2.2.2.2.1 == x.2.2.2.2.2.2.2.2.2.2.2.2.2.1) && true))) && true)) && true))))) with | true => (match ((x.1.2.2.2.2.2.2.2.2.2.2.2.2.2.1 == x.2.2.2.2.2.2.2.2.2.2.2.2.2.2.1) && ((x.1.2.2.2.2.2.2.2.2.2.2.2.2.2.2.1 == x.2.2.2.2.2.2.2.2.2.2.2.2.2.2.2.1) && true)) with | true => (k (x.1.2.2.2.2.2.2.2.2.2.2.2.2.2.2.2.1 == x.2.2.2.2.2.2.2.2.2.2.2.2.2.2.2.2.1)) | false => (k false)) | false => (k false)) | false => (k false)) | none => none)
abbrev zyt (N : Nat) (x : RT3 × RT3) : Option (Bool) := (zlM N).d x
theorem zr1 (N : Nat) : Zd (zlM N).t := by
 intro x α β k k' r r' h h1
 revert h
 dsimp only [zlM]
 (repeat' (first | (with_reducible refine ze ?_ ?_) | split)) <;> intro h <;> first | exact h1 _ h | cases h
theorem ztH (N : Nat) : Zh (zn qP) (zCT N) zwW (lam N []) Tryd.f49 (zlM N) := fun x => by kernel_rfl
def zDu (N : Nat) : Ent qP := zA (zd qP) (zi _) zl 49 Tryd.f49 Tryd.func49 rfl zwW (lam N []) (zm (l := []) an (by kernel_rfl)) (zlM N) (fun _ => ⟨rfl, rfl⟩) (ztH N) (fun _ _ _ h => zw h (fun _ _ => rfl) (fun _ _ => rfl)) (zr1 N)
def zwA : Nat -> Keep × Keep := anL []
def zEn (N : Nat) : GamK := gam (P := qP) [zDu N]
def zjU (N : Nat) : FSpec where
 X := RT0 × RT0
 Y := Bool
 ash := [[none, none, none, none, none, none, none, none, none, some 9, none, none, none, none, none, none, none, none, none, none, none, none, none, none, none], [none, none, none, none, none, none, none, none, none, some 9, none, none, none, none, none, none, none, none, none, none, none, none, none, none, none]]
 S := ⟨[[none]], [], [], [], []⟩
 pat := fun a b => rdA [.agg RK0, .agg RK0] [] a b fun ⟨a0, a1, _⟩ _ => (a0, a1)
 args := fun x => [(AV.agg (zB x.1)), (AV.agg (zB x.2))]
 ret := fun y => ⟨(AV.v (.bool y)), [], none, [], [], [], none⟩
 t := fun x α k => (match (((x.1.1 == x.2.1) && ((x.1.2.1 == x.2.2.1) && ((x.1.2.2.1 == x.2.2.2.1) && ((x.1.2.2.2.1 == x.2.2.2.2.1) && true)))) && ((x.1.2.2.2.2.1 == x.2.2.2.2.2.1) && ((x.1.2.2.2.2.2.1 == x.2.2.2.2.2.2.1) && ((x.1.2.2.2.2.2.2.1 == x.2.2.2.2.2.2.2.1) && ((x.1.2.2.2.2.2.2.2.1 == x.2.2.2.2.2.2.2.2.1) && ((x.1.2.2.2.2.2.2.2.2.1 == x.2.2.2.2.2.2.2.2.2.1) && true)))))) with | true => (match zyt N ((zI x.1), (zI x.2)) with | some y1 => (k y1) | none => none) | false => (k false))
abbrev zdQ (N : Nat) (x : RT0 × RT0) : Option (Bool) := (zjU N).d x
theorem zsW (N : Nat) : Zd (zjU N).t := by
 intro x α β k k' r r' h h1
 revert h
 dsimp only [zjU]
 (repeat' (first | (with_reducible refine ze ?_ ?_) | split)) <;> intro h <;> first | exact h1 _ h | cases h
theorem zrQ (N : Nat) : Zh (zn qP) (zEn N) zwA (lam N []) Tryd.f40 (zjU N) := fun x => by kernel_rfl
def zB4 (N : Nat) : Ent qP := zA (zd qP) (zi _) zl 40 Tryd.f40 Tryd.func40 rfl zwA (lam N []) (zm (l := []) an (by kernel_rfl)) (zjU N) (fun _ => ⟨rfl, rfl⟩) (zrQ N) (fun _ _ _ h => zw h (fun _ _ => rfl) (fun _ _ => rfl)) (zsW N)
def zb2 : Nat -> Keep × Keep := anL [(4, qK [0, 3] [] [], qK [0, 2] [] [])]
def zCd (N : Nat) : GamK := gam (P := qP) []
def zdh (N : Nat) : LSpec where
 X := ByteArray × Int
 Y := (ByteArray × Bool) ⊕ (ByteArray)
 p := fun s => rdS 28 0 [(0, .str), (3, .int .i64)] [] s fun ⟨a0, a1, _⟩ _ => (a0, a1)
 st := fun u4 => mkS 28 [(0, (AV.v (.string u4.1))), (3, (qI u4.2))] [] (zb2 4).1.toks 0
 out := fun y => match y with
  | .inl y => (.ret, mkS 28 [(0, (AV.v (.string y.1))), (2, (AV.v (.bool y.2)))] [] (zb2 4).2.toks 0)
  | .inr y => (.exit 0, mkS 28 [(0, (AV.v (.string y)))] [] (zb2 4).2.toks 0)
 b := fun u4 α kn ke => (match (decide (u4.2 < (u4.1.size : Int))) with | true => (if 0 <= u4.2 then (match u4.1[u4.2.toNat]? with | some c1 => (match (decide ((c1.toNat : Int) < 97)) with | true => (ke (.inl (u4.1, false))) | false => (if 0 <= u4.2 then (match u4.1[u4.2.toNat]? with | some c2 => (match (decide ((c2.toNat : Int) > 122)) with | true => (ke (.inl (u4.1, false))) | false => (kn (u4.1, (i64 (u4.2 + 1))))) | none => none) else none)) | none => none) else none) | false => (ke (.inr u4.1)))
abbrev zBM (N : Nat) (x : ByteArray × Int) : Option ((ByteArray × Bool) ⊕ (ByteArray)) := (zdh N).L N x
def zpA (N : Nat) : FSpec where
 X := ByteArray
 Y := Bool
 ash := [[none]]
 S := ⟨[[none]], [], [], [], []⟩
 pat := fun a b => rdA [.str] [] a b fun ⟨a0, _⟩ _ => a0
 args := fun x => [(AV.v (.string x))]
 ret := fun y => ⟨(AV.v (.bool y)), [], none, [], [], [], none⟩
 t := fun x α k => (match zBM N (x, 0) with | some y3 => (match y3 with | .inl z4 => (k z4.2) | .inr z5 => (match (decide ((z5.size : Int) >= 1)) with | true => (k (decide ((z5.size : Int) <= 16))) | false => (k false))) | none => none)
abbrev zrD (N : Nat) (x : ByteArray) : Option (Bool) := (zpA N).d x
def zgA (N : Nat) : List (Nat × LSpec) := [(4, zdh N)]
def zt4 : Code := Tryd.f76.body.getD .skip
theorem ztT (N : Nat) : Par (zdh N).b := by
 intro x α β kn ke kn' ke' r r' h h1 h2
 revert h
 dsimp only [zdh]
 (repeat' (first | (with_reducible refine ze ?_ ?_) | split)) <;> intro h <;> first | exact h1 _ h | exact h2 _ h | cases h
theorem zmu (N : Nat) : jh (zn qP) (zCd N) zb2 N (zgA N) 4 zt4 (zdh N) := fun x α kn ke => by kernel_rfl
theorem zov (N : Nat) : ZK qP zb2 N (zgA N) 4 (zc 4 zt4) :=
 zD (zd qP) (zi _) zl zb2 N (zgA N) 4 zt4 (l := []) (by kernel_rfl) (by kernel_rfl) an (zdh N) rfl (fun s x hc h => by dsimp only [zdh] at h; exact zJ hc h (fun _ _ => rfl) rfl rfl rfl) (fun _ => rfl) (zmu N) (ztT N)
theorem zvt (N : Nat) : Zd (zpA N).t := by
 intro x α β k k' r r' h h1
 revert h
 dsimp only [zpA]
 (repeat' (first | (with_reducible refine ze ?_ ?_) | split)) <;> intro h <;> first | exact h1 _ h | cases h
theorem zqD (N : Nat) : Zh (zn qP) (zCd N) zb2 (lam N (zgA N)) Tryd.f76 (zpA N) := fun x => by kernel_rfl
def zAz (N : Nat) : Ent qP := zA (zd qP) (zi _) zl 76 Tryd.f76 Tryd.func76 rfl zb2 (lam N (zgA N)) (zm (l := [(4, zc 4 zt4)]) (al (zov N) an) (by kernel_rfl)) (zpA N) (fun _ => ⟨rfl, rfl⟩) (zqD N) (fun _ _ _ h => zw h (fun _ _ => rfl) (fun _ _ => rfl)) (zvt N)
def Jf : Nat -> Keep × Keep := anL [(4, qK [1, 2, 3, 7] [] [3], qK [3, 6] [] [3]), (16, ⟨[1, 2, 3, 7, 8], [], [3, 8], [], [], [], [], [], true, none, []⟩, qK [1, 2, 3, 6, 7, 8] [] [3, 8])]
def zxK (N : Nat) : GamK := gam (P := qP) [zx8 N, zAz N, zDb N, zAf N, zB4 N]
def Jn (N : Nat) : LSpec where
 X := Int × Int × Int × qL × RT7
 Y := (Int × Int × Bool × Int × qL × RT7) ⊕ (Int × Int × Int × qL × RT7)
 p := fun s => rdS 147 0 [(1, .int .i64), (2, .int .i64), (3, .ptr 3 0), (7, .int .i64), (8, .ptr 8 0)] [(3, .cells [.lst 29]), (8, .row RK7)] s fun ⟨a0, a1, _, a2, _, _⟩ ⟨⟨a3, _⟩, a4, _⟩ => (a0, a1, a2, a3, a4)
 st := fun u16 => mkS 147 [(1, (qI u16.1)), (2, (qI u16.2.1)), (3, (AV.ptr 3 0)), (7, (qI u16.2.2.1)), (8, (AV.ptr 8 0))] [(3, [(AV.list 29 u16.2.2.2.1 none)]), (8, (zN u16.2.2.2.2))] (Jf 16).1.toks 0
 out := fun y => match y with
  | .inl y => (.ret, mkS 147 [(1, (qI y.1)), (2, (qI y.2.1)), (3, (AV.ptr 3 0)), (6, (AV.v (.bool y.2.2.1))), (7, (qI y.2.2.2.1)), (8, (AV.ptr 8 0))] [(3, [(AV.list 29 y.2.2.2.2.1 none)]), (8, (zN y.2.2.2.2.2))] (Jf 16).2.toks 0)
  | .inr y => (.normal, mkS 147 [(1, (qI y.1)), (2, (qI y.2.1)), (3, (AV.ptr 3 0)), (7, (qI y.2.2.1)), (8, (AV.ptr 8 0))] [(3, [(AV.list 29 y.2.2.2.1 none)]), (8, (zN y.2.2.2.2))] (Jf 16).2.toks 0)
 b := fun u16 α kn ke => (match (u16.2.2.2.2.1 == 1) with | true => (match (!(u16.2.2.2.2.2.2.1.toList == (⟨#[]⟩ : ByteArray).toList)) with | true => (ke (.inl (u16.1, u16.2.1, false, u16.2.2))) | false => (ke (.inr u16))) | false => (match (u16.2.2.2.2.1 == 2) with | true => (match (!(u16.2.2.2.2.2.2.1.toList == (⟨#[]⟩ : ByteArray).toList)) with | true => (ke (.inl (u16.1, u16.2.1, false, u16.2.2))) | false => (match (!(u16.2.2.2.2.1 == 2)) with | true => (match zrD N u16.2.2.2.2.2.2.1 with | some y8 => (match (!y8) with | true => (ke (.inl (u16.1, u16.2.1, false, u16.2.2))) | false => (ke (.inr u16))) | none => none) | false => (ke (.inr u16)))) | false => (match (!(u16.2.2.2.2.1 == 2)) with | true => (match zrD N u16.2.2.2.2.2.2.1 with | some y9 => (match (!y9) with | true => (ke (.inl (u16.1, u16.2.1, false, u16.2.2))) | false => (ke (.inr u16))) | none => none) | false => (ke (.inr u16)))))
abbrev zqp (N : Nat) (x : Int × Int × Int × qL × RT7) : Option ((Int × Int × Bool × Int × qL × RT7) ⊕ (Int × Int × Int × qL × RT7)) := (Jn N).L N x
def jI (N : Nat) : LSpec where
 X := Int × Int × Int × qL
 Y := (Bool × qL) ⊕ (qL)
 p := fun s => rdS 147 0 [(1, .int .i64), (2, .int .i64), (3, .ptr 3 0), (7, .int .i64)] [(3, .cells [.lst 29])] s fun ⟨a0, a1, _, a2, _⟩ ⟨⟨a3, _⟩, _⟩ => (a0, a1, a2, a3)
 st := fun u4 => mkS 147 [(1, (qI u4.1)), (2, (qI u4.2.1)), (3, (AV.ptr 3 0)), (7, (qI u4.2.2.1))] [(3, [(AV.list 29 u4.2.2.2 none)])] (Jf 4).1.toks 0
 out := fun y => match y with
  | .inl y => (.ret, mkS 147 [(3, (AV.ptr 3 0)), (6, (AV.v (.bool y.1)))] [(3, [(AV.list 29 y.2 none)])] (Jf 4).2.toks 0)
  | .inr y => (.exit 0, mkS 147 [(3, (AV.ptr 3 0))] [(3, [(AV.list 29 y none)])] (Jf 4).2.toks 0)
 b := fun u4 α kn ke => (match (decide (u4.2.2.1 < (u4.2.2.2.length : Int))) with | true => (if 0 <= u4.2.2.1 then (match u4.2.2.2[u4.2.2.1.toNat]? with | some c33 => (match zlh c33 with | some e34 => (match (decide (e34.1 < 1)) with | true => (ke (.inl (false, u4.2.2.2))) | false => (match (decide (e34.1 > 6)) with | true => (ke (.inl (false, u4.2.2.2))) | false => (match (decide (e34.2.1 < 0)) with | true => (ke (.inl (false, u4.2.2.2))) | false => (match (decide (e34.2.1 > 18014398509481984)) with | true => (ke (.inl (false, u4.2.2.2))) | false => (match zcF N ([(zB (zx e34))]) with | some y35 => (match (!y35) with | true => (ke (.inl (false, u4.2.2.2))) | false => (match zqp N (u4.1, u4.2.1, u4.2.2.1, u4.2.2.2, e34) with | some y36 => (match y36 with | .inl z37 => (ke (.inl (z37.2.2.1, z37.2.2.2.2.1))) | .inr z38 => (match (z38.2.2.2.2.1 != 5) with | true => (match (z38.2.2.2.2.2.2.2.1 != 0) with | true => (ke (.inl (false, z38.2.2.2.1))) | false => (match (z38.2.2.2.2.1 == 5) with | true => (match (decide (z38.2.2.2.2.2.2.2.1 < 0)) with | true => (ke (.inl (false, z38.2.2.2.1))) | false => (match (decide (z38.2.2.2.2.2.2.2.1 >= z38.2.1)) with | true => (ke (.inl (false, z38.2.2.2.1))) | false => (match (z38.2.2.2.2.2.2.2.1 == z38.1) with | true => (ke (.inl (false, z38.2.2.2.1))) | false => (match (z38.2.2.1 == 0) with | true => (match (z38.2.2.2.2.1 != 1) with | true => (ke (.inl (false, z38.2.2.2.1))) | false => (kn (z38.1, z38.2.1, (i64 (z38.2.2.1 + 1)), z38.2.2.2.1))) | false => (if 0 <= (i64 (z38.2.2.1 - 1)) then (match z38.2.2.2.1[(i64 (z38.2.2.1 - 1)).toNat]? with | some c39 => (match zlh c39 with | some e40 => (match (decide (z38.2.2.2.2.2.1 < e40.2.1)) with | true => (ke (.inl (false, z38.2.2.2.1))) | false => (match zkt N (z38.2.2.2.2, e40) with | some y41 => (match (!y41) with | true => (ke (.inl (false, z38.2.2.2.1))) | false => (match zig N z38.2.2.2.2.1 with | some y42 => (match y42 with | true => (match zdQ N ((zx e40), (zx z38.2.2.2.2)) with | some y43 => (match (!y43) with | true => (ke (.inl (false, z38.2.2.2.1))) | false => (kn (z38.1, z38.2.1, (i64 (z38.2.2.1 + 1)), z38.2.2.2.1))) | none => none) | false => (kn (z38.1, z38.2.1, (i64 (z38.2.2.1 + 1)), z38.2.2.2.1))) | none => none)) | none => none)) | none => none) | none => none) else none))))) | false => (match (z38.2.2.1 == 0) with | true => (match (z38.2.2.2.2.1 != 1) with | true => (ke (.inl (false, z38.2.2.2.1))) | false => (kn (z38.1, z38.2.1, (i64 (z38.2.2.1 + 1)), z38.2.2.2.1))) | false => (if 0 <= (i64 (z38.2.2.1 - 1)) then (match z38.2.2.2.1[(i64 (z38.2.2.1 - 1)).toNat]? with | some c44 => (match zlh c44 with | some e45 => (match (decide (z38.2.2.2.2.2.1 < e45.2.1)) with | true => (ke (.inl (false, z38.2.2.2.1))) | false => (match zkt N (z38.2.2.2.2, e45) with | some y46 => (match (!y46) with | true => (ke (.inl (false, z38.2.2.2.1))) | false => (match zig N z38.2.2.2.2.1 with | some y47 => (match y47 with | true => (match zdQ N ((zx e45), (zx z38.2.2.2.2)) with | some y48 => (match (!y48) with | true => (ke (.inl (false, z38.2.2.2.1))) | false => (kn (z38.1, z38.2.1, (i64 (z38.2.2.1 + 1)), z38.2.2.2.1))) | none => none) | false => (kn (z38.1, z38.2.1, (i64 (z38.2.2.1 + 1)), z38.2.2.2.1))) | none => none)) | none => none)) | none => none) | none => none) else none)))) | false => (match (z38.2.2.2.2.1 == 5) with | true => (match (decide (z38.2.2.2.2.2.2.2.1 < 0)) with | true => (ke (.inl (false, z38.2.2.2.1))) | false => (match (decide (z38.2.2.2.2.2.2.2.1 >= z38.2.1)) with | true => (ke (.inl (false, z38.2.2.2.1))) | false => (match (z38.2.2.2.2.2.2.2.1 == z38.1) with | true => (ke (.inl (false, z38.2.2.2.1))) | false => (match (z38.2.2.1 == 0) with | true => (match (z38.2.2.2.2.1 != 1) with | true => (ke (.inl (false, z38.2.2.2.1))) | false => (kn (z38.1, z38.2.1, (i64 (z38.2.2.1 + 1)), z38.2.2.2.1))) | false => (if 0 <= (i64 (z38.2.2.1 - 1)) then (match z38.2.2.2.1[(i64 (z38.2.2.1 - 1)).toNat]? with | some c49 => (match zlh c49 with | some e50 => (match (decide (z38.2.2.2.2.2.1 < e50.2.1)) with | true => (ke (.inl (false, z38.2.2.2.1))) | false => (match zkt N (z38.2.2.2.2, e50) with | some y51 => (match (!y51) with | true => (ke (.inl (false, z38.2.2.2.1))) | false => (match zig N z38.2.2.2.2.1 with | some y52 => (match y52 with | true => (match zdQ N ((zx e50), (zx z38.2.2.2.2)) with | some y53 => (match (!y53) with | true => (ke (.inl (false, z38.2.2.2.1))) | false => (kn (z38.1, z38.2.1, (i64 (z38.2.2.1 + 1)), z38.2.2.2.1))) | none => none) | false => (kn (z38.1, z38.2.1, (i64 (z38.2.2.1 + 1)), z38.2.2.2.1))) | none => none)) | none => none)) | none => none) | none => none) else none))))) | false => (match (z38.2.2.1 == 0) with | true => (match (z38.2.2.2.2.1 != 1) with | true => (ke (.inl (false, z38.2.2.2.1))) | false => (kn (z38.1, z38.2.1, (i64 (z38.2.2.1 + 1)), z38.2.2.2.1))) | false => (if 0 <= (i64 (z38.2.2.1 - 1)) then (match z38.2.2.2.1[(i64 (z38.2.2.1 - 1)).toNat]? with | some c54 => (match zlh c54 with | some e55 => (match (decide (z38.2.2.2.2.2.1 < e55.2.1)) with | true => (ke (.inl (false, z38.2.2.2.1))) | false => (match zkt N (z38.2.2.2.2, e55) with | some y56 => (match (!y56) with | true => (ke (.inl (false, z38.2.2.2.1))) | false => (match zig N z38.2.2.2.2.1 with | some y57 => (match y57 with | true => (match zdQ N ((zx e55), (zx z38.2.2.2.2)) with | some y58 => (match (!y58) with | true => (ke (.inl (false, z38.2.2.2.1))) | false => (kn (z38.1, z38.2.1, (i64 (z38.2.2.1 + 1)), z38.2.2.2.1))) | none => none) | false => (kn (z38.1, z38.2.1, (i64 (z38.2.2.1 + 1)), z38.2.2.2.1))) | none => none)) | none => none)) | none => none) | none => none) else none))))) | none => none)) | none => none))))) | none => none) | none => none) else none) | false => (ke (.inr u4.2.2.2)))
abbrev zxx (N : Nat) (x : Int × Int × Int × qL) : Option ((Bool × qL) ⊕ (qL)) := (jI N).L N x
def zdR (N : Nat) : FSpec where
 X := qL × Int × Int
 Y := Bool
 ash := [[some 29], [none], [none]]
 S := ⟨[[none]], [], [], [], []⟩
 pat := fun a b => zk a fun v1 c2 => jg v1 fun c3 => zk c3 fun c4 c5 => Z3 29 c4 fun a0 => zQ c5 <| zk c2 fun v6 c7 => jO .i64 v6 fun a1 => zk c7 fun v8 c9 => jO .i64 v8 fun a2 => zQ c9 <| zQ b <| some (a0, a1, a2)
 args := fun x => [(AV.agg [(AV.list 29 x.1 none)]), (AV.v (.int .i64 x.2.1)), (AV.v (.int .i64 x.2.2))]
 ret := fun y => ⟨(AV.v (.bool y)), [], none, [], [], [], none⟩
 t := fun x α k => (match zxx N (x.2.1, x.2.2, 0, x.1) with | some y59 => (match y59 with | .inl z60 => (k z60.1) | .inr z61 => (match (decide ((z61.length : Int) >= 1)) with | true => (k (decide ((z61.length : Int) <= 100))) | false => (k false))) | none => none)
abbrev zxM (N : Nat) (x : qL × Int × Int) : Option (Bool) := (zdR N).d x
def zbA (N : Nat) : List (Nat × LSpec) := [(4, jI N), (16, Jn N)]
def zfb : Code := Tryd.f78.body.getD .skip
theorem zpD (N : Nat) : Par (Jn N).b := by
 intro x α β kn ke kn' ke' r r' h h1 h2
 revert h
 dsimp only [Jn]
 (repeat' (first | (with_reducible refine ze ?_ ?_) | split)) <;> intro h <;> first | exact h1 _ h | exact h2 _ h | cases h
theorem zjO (N : Nat) : zlV (zn qP) (zxK N) Jf N (zbA N) 16 zfb (Jn N) := fun x α kn ke => by kernel_rfl
theorem zez (N : Nat) : ZK qP Jf N (zbA N) 16 (zc 16 zfb) :=
 j6 (zd qP) (zi _) zl Jf N (zbA N) 16 zfb (l := []) (by kernel_rfl) an (Jn N) rfl (fun s x hc h => by dsimp only [Jn] at h; exact zJ hc h (fun _ _ => rfl) rfl rfl rfl) (zjO N) (zpD N)
theorem zu9 (N : Nat) : Par (jI N).b := by
 intro x α β kn ke kn' ke' r r' h h1 h2
 revert h
 dsimp only [jI]
 (repeat' (first | (with_reducible refine ze ?_ ?_) | split)) <;> intro h <;> first | exact h1 _ h | exact h2 _ h | cases h
theorem zp0 (N : Nat) : jh (zn qP) (zxK N) Jf N (zbA N) 4 zfb (jI N) := fun x α kn ke => by kernel_rfl
theorem zmP (N : Nat) : ZK qP Jf N (zbA N) 4 (zc 4 zfb) :=
 zD (zd qP) (zi _) zl Jf N (zbA N) 4 zfb (l := [(16, zc 16 zfb)]) (by kernel_rfl) (by kernel_rfl) (al (zez N) an) (jI N) rfl (fun s x hc h => by dsimp only [jI] at h; exact zJ hc h (fun _ _ => rfl) rfl rfl rfl) (fun _ => rfl) (zp0 N) (zu9 N)
theorem zus (N : Nat) : Zd (zdR N).t := by
 intro x α β k k' r r' h h1
 revert h
 dsimp only [zdR]
 (repeat' (first | (with_reducible refine ze ?_ ?_) | split)) <;> intro h <;> first | exact h1 _ h | cases h
theorem zvC (N : Nat) : Zh (zn qP) (zxK N) Jf (lam N (zbA N)) Tryd.f78 (zdR N) := fun x => by kernel_rfl
theorem zx3 (N : Nat) (a : List AV) (b : qL) (x : (zdR N).X) (h : (zdR N).pat a b = some x) : a = (zdR N).args x /\ b = (zdR N).bs x := by
 obtain ⟨v1, c2, rfl, g0⟩ := zb (show zk _ _ = some x from h)
 obtain ⟨c3, rfl, g1⟩ := zR g0; clear g0
 obtain ⟨c4, c5, rfl, g2⟩ := zb g1; clear g1
 obtain ⟨a0, rfl, g3⟩ := zr g2; clear g2
 obtain ⟨rfl, g4⟩ := zg g3; clear g3
 obtain ⟨v6, c7, rfl, g5⟩ := zb g4; clear g4
 obtain ⟨a1, rfl, g6⟩ := zC g5; clear g5
 obtain ⟨v8, c9, rfl, g7⟩ := zb g6; clear g6
 obtain ⟨a2, rfl, g8⟩ := zC g7; clear g7
 obtain ⟨rfl, g9⟩ := zg g8; clear g8
 obtain ⟨rfl, g10⟩ := zg g9; clear g9
 clear h
 cases g10
 exact ⟨rfl, rfl⟩
def zCV (N : Nat) : Ent qP := zA (zd qP) (zi _) zl 78 Tryd.f78 Tryd.func78 rfl Jf (lam N (zbA N)) (zm (l := [(4, zc 4 zfb), (16, zc 16 zfb)]) (al (zmP N) (al (zez N) an)) (by kernel_rfl)) (zdR N) (fun _ => ⟨rfl, rfl⟩) (zvC N) (zx3 N) (zus N)
def zbW : Nat -> Keep × Keep := anL [(4, qK [1, 3] [] [1], qK [1, 2] [] [1])]
def zCc (N : Nat) : GamK := gam (P := qP) [zCV N]
def jE (N : Nat) : LSpec where
 X := Int × qL
 Y := (Bool × qL) ⊕ (qL)
 p := fun s => rdS 26 0 [(1, .ptr 1 0), (3, .int .i64)] [(1, .cells [.lst 1])] s fun ⟨_, a0, _⟩ ⟨⟨a1, _⟩, _⟩ => (a0, a1)
 st := fun u4 => mkS 26 [(1, (AV.ptr 1 0)), (3, (qI u4.1))] [(1, [(AV.list 1 u4.2 none)])] (zbW 4).1.toks 0
 out := fun y => match y with
  | .inl y => (.ret, mkS 26 [(1, (AV.ptr 1 0)), (2, (AV.v (.bool y.1)))] [(1, [(AV.list 1 y.2 none)])] (zbW 4).2.toks 0)
  | .inr y => (.exit 0, mkS 26 [(1, (AV.ptr 1 0))] [(1, [(AV.list 1 y none)])] (zbW 4).2.toks 0)
 b := fun u4 α kn ke => (match (decide (u4.1 < (u4.2.length : Int))) with | true => (if 0 <= u4.1 then (match u4.2[u4.1.toNat]? with | some c4 => (match zfU c4 with | some e5 => (match zxM N (e5.1, u4.1, (u4.2.length : Int)) with | some y6 => (match (!y6) with | true => (ke (.inl (false, u4.2))) | false => (kn ((i64 (u4.1 + 1)), u4.2))) | none => none) | none => none) | none => none) else none) | false => (ke (.inr u4.2)))
abbrev zw5 (N : Nat) (x : Int × qL) : Option ((Bool × qL) ⊕ (qL)) := (jE N).L N x
def zd8 (N : Nat) : FSpec where
 X := qL
 Y := Bool
 ash := [[some 1]]
 S := ⟨[[none]], [], [], [], []⟩
 pat := fun a b => zk a fun v1 c2 => jg v1 fun c3 => zk c3 fun c4 c5 => Z3 1 c4 fun a0 => zQ c5 <| zQ c2 <| zQ b <| some a0
 args := fun x => [(AV.agg [(AV.list 1 x none)])]
 ret := fun y => ⟨(AV.v (.bool y)), [], none, [], [], [], none⟩
 t := fun x α k => (match zw5 N (0, x) with | some y7 => (match y7 with | .inl z8 => (k z8.1) | .inr z9 => (k (decide ((z9.length : Int) <= 500)))) | none => none)
abbrev zsY (N : Nat) (x : qL) : Option (Bool) := (zd8 N).d x
def zgJ (N : Nat) : List (Nat × LSpec) := [(4, jE N)]
def zto : Code := Tryd.f55.body.getD .skip
theorem zrl (N : Nat) : Par (jE N).b := by
 intro x α β kn ke kn' ke' r r' h h1 h2
 revert h
 dsimp only [jE]
 (repeat' (first | (with_reducible refine ze ?_ ?_) | split)) <;> intro h <;> first | exact h1 _ h | exact h2 _ h | cases h
theorem zpv (N : Nat) : jh (zn qP) (zCc N) zbW N (zgJ N) 4 zto (jE N) := fun x α kn ke => by kernel_rfl
theorem zoc (N : Nat) : ZK qP zbW N (zgJ N) 4 (zc 4 zto) :=
 zD (zd qP) (zi _) zl zbW N (zgJ N) 4 zto (l := []) (by kernel_rfl) (by kernel_rfl) an (jE N) rfl (fun s x hc h => by dsimp only [jE] at h; exact zJ hc h (fun _ _ => rfl) rfl rfl rfl) (fun _ => rfl) (zpv N) (zrl N)
theorem ztP (N : Nat) : Zd (zd8 N).t := by
 intro x α β k k' r r' h h1
 revert h
 dsimp only [zd8]
 (repeat' (first | (with_reducible refine ze ?_ ?_) | split)) <;> intro h <;> first | exact h1 _ h | cases h
theorem zty (N : Nat) : Zh (zn qP) (zCc N) zbW (lam N (zgJ N)) Tryd.f55 (zd8 N) := fun x => by kernel_rfl
theorem zy2 (N : Nat) (a : List AV) (b : qL) (x : (zd8 N).X) (h : (zd8 N).pat a b = some x) : a = (zd8 N).args x /\ b = (zd8 N).bs x := by
 obtain ⟨v1, c2, rfl, g0⟩ := zb (show zk _ _ = some x from h)
 obtain ⟨c3, rfl, g1⟩ := zR g0; clear g0
 obtain ⟨c4, c5, rfl, g2⟩ := zb g1; clear g1
 obtain ⟨a0, rfl, g3⟩ := zr g2; clear g2
 obtain ⟨rfl, g4⟩ := zg g3; clear g3
 obtain ⟨rfl, g5⟩ := zg g4; clear g4
 obtain ⟨rfl, g6⟩ := zg g5; clear g5
 clear h
 cases g6
 exact ⟨rfl, rfl⟩
def zBv (N : Nat) : Ent qP := zA (zd qP) (zi _) zl 55 Tryd.f55 Tryd.func55 rfl zbW (lam N (zgJ N)) (zm (l := [(4, zc 4 zto)]) (al (zoc N) an) (by kernel_rfl)) (zd8 N) (fun _ => ⟨rfl, rfl⟩) (zty N) (zy2 N) (ztP N)
def zb7 : Nat -> Keep × Keep := anL [(4, ⟨[3, 5], [], [3], [(0, 25)], [], [], [], [], false, none, []⟩, qK [4] [] [])]
def zAK (N : Nat) : GamK := gam (P := qP) []
def jf (N : Nat) : LSpec where
 X := qL × Int × RT1
 Y := (Int) ⊕ (Unit)
 p := fun s => rdS 20 0 [(0, .lst 25), (3, .ptr 3 0), (5, .int .i64)] [(3, .row RK1)] s fun ⟨a0, _, a1, _⟩ ⟨a2, _⟩ => (a0, a1, a2)
 st := fun u4 => mkS 20 [(0, (AV.list 25 u4.1 none)), (3, (AV.ptr 3 0)), (5, (qI u4.2.1))] [(3, (zq u4.2.2))] (zb7 4).1.toks 0
 out := fun y => match y with
  | .inl y => (.ret, mkS 20 [(4, (qI y))] [] (zb7 4).2.toks 0)
  | .inr y => (.exit 0, mkS 20 [] [] (zb7 4).2.toks 0)
 b := fun u4 α kn ke => (match (decide (u4.2.1 < (u4.1.length : Int))) with | true => (if 0 <= u4.2.1 then (match u4.1[u4.2.1.toNat]? with | some c1 => (match Jv (c1.drop 0) with | some e2 => (match (((e2.1 == u4.2.2.1) && ((e2.2.1 == u4.2.2.2.1) && ((e2.2.2.1 == u4.2.2.2.2.1) && ((e2.2.2.2.1 == u4.2.2.2.2.2.1) && true)))) && ((e2.2.2.2.2.1 == u4.2.2.2.2.2.2.1) && ((e2.2.2.2.2.2.1 == u4.2.2.2.2.2.2.2.1) && ((e2.2.2.2.2.2.2.1 == u4.2.2.2.2.2.2.2.2.1) && ((e2.2.2.2.2.2.2.2.1 == u4.2.2.2.2.2.2.2.2.2.1) && ((e2.2.2.2.2.2.2.2.2.1 == u4.2.2.2.2.2.2.2.2.2.2.1) && true)))))) with | true => (ke (.inl u4.2.1)) | false => (kn (u4.1, (i64 (u4.2.1 + 1)), u4.2.2))) | none => none) | none => none) else none) | false => (ke (.inr ())))
abbrev zvT (N : Nat) (x : qL × Int × RT1) : Option ((Int) ⊕ (Unit)) := (jf N).L N x
def zjR (N : Nat) : FSpec where
 X := qL × RT1
 Y := Int
 ash := [[some 25], [none, none, none, none, none, none, none, none, none]]
 S := ⟨[[none]], [], [], [], []⟩
 pat := fun a b => rdA [.lst 25, .agg RK1] [] a b fun ⟨a0, a1, _⟩ _ => (a0, a1)
 args := fun x => [(AV.list 25 x.1 none), (AV.agg (zq x.2))]
 ret := fun y => ⟨(AV.v (.int .i64 y)), [], none, [], [], [], none⟩
 t := fun x α k => (match zvT N (x.1, 0, x.2) with | some y3 => (match y3 with | .inl z4 => (k z4) | .inr z5 => (k (-1))) | none => none)
abbrev zuo (N : Nat) (x : qL × RT1) : Option (Int) := (zjR N).d x
def zgh (N : Nat) : List (Nat × LSpec) := [(4, jf N)]
def ztV : Code := Tryd.f18.body.getD .skip
theorem ztl (N : Nat) : Par (jf N).b := by
 intro x α β kn ke kn' ke' r r' h h1 h2
 revert h
 dsimp only [jf]
 (repeat' (first | (with_reducible refine ze ?_ ?_) | split)) <;> intro h <;> first | exact h1 _ h | exact h2 _ h | cases h
theorem zpR (N : Nat) : jh (zn qP) (zAK N) zb7 N (zgh N) 4 ztV (jf N) := fun x α kn ke => by kernel_rfl
theorem zpn (N : Nat) : ZK qP zb7 N (zgh N) 4 (zc 4 ztV) :=
 zD (zd qP) (zi _) zl zb7 N (zgh N) 4 ztV (l := []) (by kernel_rfl) (by kernel_rfl) an (jf N) rfl (fun s x hc h => by dsimp only [jf] at h; exact zJ hc h (fun _ _ => rfl) rfl rfl rfl) (fun _ => rfl) (zpR N) (ztl N)
theorem zrf (N : Nat) : Zd (zjR N).t := by
 intro x α β k k' r r' h h1
 revert h
 dsimp only [zjR]
 (repeat' (first | (with_reducible refine ze ?_ ?_) | split)) <;> intro h <;> first | exact h1 _ h | cases h
theorem zug (N : Nat) : Zh (zn qP) (zAK N) zb7 (lam N (zgh N)) Tryd.f18 (zjR N) := fun x => by kernel_rfl
def zDe (N : Nat) : Ent qP := zA (zd qP) (zi _) zl 18 Tryd.f18 Tryd.func18 rfl zb7 (lam N (zgh N)) (zm (l := [(4, zc 4 ztV)]) (al (zpn N) an) (by kernel_rfl)) (zjR N) (fun _ => ⟨rfl, rfl⟩) (zug N) (fun _ _ _ h => zw h (fun _ _ => rfl) (fun _ _ => rfl)) (zrf N)
def zxv : Nat -> Keep × Keep := anL []
def zCM (N : Nat) : GamK := gam (P := qP) []
def zdU (N : Nat) : FSpec where
 X := qL
 Y := RT7
 ash := [[some 29]]
 S := ⟨[[none, none, none, none, none, none, none, none, none, none, none, none, none, some 9, none, none, none, none, none, none, none, none, none, none, none, none, none, none, none]], [], [], [], []⟩
 pat := fun a b => zk a fun v1 c2 => jg v1 fun c3 => zk c3 fun c4 c5 => Z3 29 c4 fun a0 => zQ c5 <| zQ c2 <| zQ b <| some a0
 args := fun x => [(AV.agg [(AV.list 29 x none)])]
 ret := fun y => ⟨(AV.agg (zN y)), [], none, [], [], [], none⟩
 t := fun x α k => (if 0 <= (i64 ((x.length : Int) - 1)) then (match x[(i64 ((x.length : Int) - 1)).toNat]? with | some c1 => (match zlh c1 with | some e2 => (k e2) | none => none) | none => none) else none)
abbrev zh3 (N : Nat) (x : qL) : Option (RT7) := (zdU N).d x
theorem zrE (N : Nat) : Zd (zdU N).t := by
 intro x α β k k' r r' h h1
 revert h
 dsimp only [zdU]
 (repeat' (first | (with_reducible refine ze ?_ ?_) | split)) <;> intro h <;> first | exact h1 _ h | cases h
theorem zvK (N : Nat) : Zh (zn qP) (zCM N) zxv (lam N []) Tryd.f16 (zdU N) := fun x => by kernel_rfl
theorem zyu (N : Nat) (a : List AV) (b : qL) (x : (zdU N).X) (h : (zdU N).pat a b = some x) : a = (zdU N).args x /\ b = (zdU N).bs x := by
 obtain ⟨v1, c2, rfl, g0⟩ := zb (show zk _ _ = some x from h)
 obtain ⟨c3, rfl, g1⟩ := zR g0; clear g0
 obtain ⟨c4, c5, rfl, g2⟩ := zb g1; clear g1
 obtain ⟨a0, rfl, g3⟩ := zr g2; clear g2
 obtain ⟨rfl, g4⟩ := zg g3; clear g3
 obtain ⟨rfl, g5⟩ := zg g4; clear g4
 obtain ⟨rfl, g6⟩ := zg g5; clear g5
 clear h
 cases g6
 exact ⟨rfl, rfl⟩
def zrm (N : Nat) : Ent qP := zA (zd qP) (zi _) zl 16 Tryd.f16 Tryd.func16 rfl zxv (lam N []) (zm (l := []) an (by kernel_rfl)) (zdU N) (fun _ => ⟨rfl, rfl⟩) (zvK N) (zyu N) (zrE N)
@[reducible] def zpp (e : RT7) : RT1 := (e.2.2.2.2.1, e.2.2.2.2.2.1, e.2.2.2.2.2.2.1, e.2.2.2.2.2.2.2.1, e.2.2.2.2.2.2.2.2.1, e.2.2.2.2.2.2.2.2.2.1, e.2.2.2.2.2.2.2.2.2.2.1, e.2.2.2.2.2.2.2.2.2.2.2.1, e.2.2.2.2.2.2.2.2.2.2.2.2.1, ())
def Ji : Nat -> Keep × Keep := anL [(4, ⟨[5], [], [], [(0, 9), (1, 9)], [], [], [], [], false, none, []⟩, qK [4] [] []), (12, ⟨[5, 6], [], [], [(0, 9), (1, 9)], [], [], [], [], false, none, []⟩, ⟨[4, 5], [], [], [(0, 9), (1, 9)], [], [], [], [], false, none, []⟩)]
def zxC (N : Nat) : GamK := gam (P := qP) []
def Zy (N : Nat) : LSpec where
 X := qL × qL × Int × Int
 Y := (qL × qL × Bool × Int) ⊕ (qL × qL × Int)
 p := fun s => rdS 28 0 [(0, .lst 9), (1, .lst 9), (5, .int .i64), (6, .int .i64)] [] s fun ⟨a0, a1, a2, a3, _⟩ _ => (a0, a1, a2, a3)
 st := fun u12 => mkS 28 [(0, (AV.list 9 u12.1 none)), (1, (AV.list 9 u12.2.1 none)), (5, (qI u12.2.2.1)), (6, (qI u12.2.2.2))] [] (Ji 12).1.toks 0
 out := fun y => match y with
  | .inl y => (.ret, mkS 28 [(0, (AV.list 9 y.1 none)), (1, (AV.list 9 y.2.1 none)), (4, (AV.v (.bool y.2.2.1))), (5, (qI y.2.2.2))] [] (Ji 12).2.toks 0)
  | .inr y => (.exit 2, mkS 28 [(0, (AV.list 9 y.1 none)), (1, (AV.list 9 y.2.1 none)), (5, (qI y.2.2))] [] (Ji 12).2.toks 0)
 b := fun u12 α kn ke => (match (decide (u12.2.2.2 < (u12.2.1.length : Int))) with | true => (if 0 <= u12.2.2.1 then (match u12.1[u12.2.2.1.toNat]? with | some c1 => (match Jv c1 with | some e2 => (if 0 <= u12.2.2.2 then (match u12.2.1[u12.2.2.2.toNat]? with | some c3 => (match Jv c3 with | some e4 => (match (((e2.1 == e4.1) && ((e2.2.1 == e4.2.1) && ((e2.2.2.1 == e4.2.2.1) && ((e2.2.2.2.1 == e4.2.2.2.1) && true)))) && ((e2.2.2.2.2.1 == e4.2.2.2.2.1) && ((e2.2.2.2.2.2.1 == e4.2.2.2.2.2.1) && ((e2.2.2.2.2.2.2.1 == e4.2.2.2.2.2.2.1) && ((e2.2.2.2.2.2.2.2.1 == e4.2.2.2.2.2.2.2.1) && ((e2.2.2.2.2.2.2.2.2.1 == e4.2.2.2.2.2.2.2.2.1) && true)))))) with | true => (ke (.inl (u12.1, u12.2.1, true, u12.2.2.1))) | false => (kn (u12.1, u12.2.1, u12.2.2.1, (i64 (u12.2.2.2 + 1))))) | none => none) | none => none) else none) | none => none) | none => none) else none) | false => (ke (.inr (u12.1, u12.2.1, u12.2.2.1))))
abbrev zhL (N : Nat) (x : qL × qL × Int × Int) : Option ((qL × qL × Bool × Int) ⊕ (qL × qL × Int)) := (Zy N).L N x
def jd (N : Nat) : LSpec where
 X := qL × qL × Int
 Y := (Bool) ⊕ (Unit)
 p := fun s => rdS 28 0 [(0, .lst 9), (1, .lst 9), (5, .int .i64)] [] s fun ⟨a0, a1, a2, _⟩ _ => (a0, a1, a2)
 st := fun u4 => mkS 28 [(0, (AV.list 9 u4.1 none)), (1, (AV.list 9 u4.2.1 none)), (5, (qI u4.2.2))] [] (Ji 4).1.toks 0
 out := fun y => match y with
  | .inl y => (.ret, mkS 28 [(4, (AV.v (.bool y)))] [] (Ji 4).2.toks 0)
  | .inr y => (.exit 0, mkS 28 [] [] (Ji 4).2.toks 0)
 b := fun u4 α kn ke => (match (decide (u4.2.2 < (u4.1.length : Int))) with | true => (match zhL N (u4.1, u4.2.1, u4.2.2, 0) with | some y5 => (match y5 with | .inl z6 => (ke (.inl z6.2.2.1)) | .inr z7 => (kn (z7.1, z7.2.1, (i64 (z7.2.2 + 1))))) | none => none) | false => (ke (.inr ())))
abbrev zw8 (N : Nat) (x : qL × qL × Int) : Option ((Bool) ⊕ (Unit)) := (jd N).L N x
def zkr (N : Nat) : FSpec where
 X := qL × qL
 Y := Bool
 ash := [[some 9], [some 9]]
 S := ⟨[[none]], [], [], [], []⟩
 pat := fun a b => rdA [.lst 9, .lst 9] [] a b fun ⟨a0, a1, _⟩ _ => (a0, a1)
 args := fun x => [(AV.list 9 x.1 none), (AV.list 9 x.2 none)]
 ret := fun y => ⟨(AV.v (.bool y)), [], none, [], [], [], none⟩
 t := fun x α k => (match zw8 N (x.1, x.2, 0) with | some y8 => (match y8 with | .inl z9 => (k z9) | .inr z10 => (k false)) | none => none)
abbrev zrG (N : Nat) (x : qL × qL) : Option (Bool) := (zkr N).d x
def zbZ (N : Nat) : List (Nat × LSpec) := [(4, jd N), (12, Zy N)]
def zfG : Code := Tryd.f83.body.getD .skip
theorem zok (N : Nat) : Par (Zy N).b := by
 intro x α β kn ke kn' ke' r r' h h1 h2
 revert h
 dsimp only [Zy]
 (repeat' (first | (with_reducible refine ze ?_ ?_) | split)) <;> intro h <;> first | exact h1 _ h | exact h2 _ h | cases h
theorem zkX (N : Nat) : jh (zn qP) (zxC N) Ji N (zbZ N) 12 zfG (Zy N) := fun x α kn ke => by kernel_rfl
theorem zex (N : Nat) : ZK qP Ji N (zbZ N) 12 (zc 12 zfG) :=
 zD (zd qP) (zi _) zl Ji N (zbZ N) 12 zfG (l := []) (by kernel_rfl) (by kernel_rfl) an (Zy N) rfl (fun s x hc h => by dsimp only [Zy] at h; exact zJ hc h (fun _ _ => rfl) rfl rfl rfl) (fun _ => rfl) (zkX N) (zok N)
theorem zrv (N : Nat) : Par (jd N).b := by
 intro x α β kn ke kn' ke' r r' h h1 h2
 revert h
 dsimp only [jd]
 (repeat' (first | (with_reducible refine ze ?_ ?_) | split)) <;> intro h <;> first | exact h1 _ h | exact h2 _ h | cases h
theorem zl7 (N : Nat) : jh (zn qP) (zxC N) Ji N (zbZ N) 4 zfG (jd N) := fun x α kn ke => by kernel_rfl
theorem zm6 (N : Nat) : ZK qP Ji N (zbZ N) 4 (zc 4 zfG) :=
 zD (zd qP) (zi _) zl Ji N (zbZ N) 4 zfG (l := [(12, zc 12 zfG)]) (by kernel_rfl) (by kernel_rfl) (al (zex N) an) (jd N) rfl (fun s x hc h => by dsimp only [jd] at h; exact zJ hc h (fun _ _ => rfl) rfl rfl rfl) (fun _ => rfl) (zl7 N) (zrv N)
theorem zvw (N : Nat) : Zd (zkr N).t := by
 intro x α β k k' r r' h h1
 revert h
 dsimp only [zkr]
 (repeat' (first | (with_reducible refine ze ?_ ?_) | split)) <;> intro h <;> first | exact h1 _ h | cases h
theorem ztx (N : Nat) : Zh (zn qP) (zxC N) Ji (lam N (zbZ N)) Tryd.f83 (zkr N) := fun x => by kernel_rfl
def zDR (N : Nat) : Ent qP := zA (zd qP) (zi _) zl 83 Tryd.f83 Tryd.func83 rfl Ji (lam N (zbZ N)) (zm (l := [(4, zc 4 zfG), (12, zc 12 zfG)]) (al (zm6 N) (al (zex N) an)) (by kernel_rfl)) (zkr N) (fun _ => ⟨rfl, rfl⟩) (ztx N) (fun _ _ _ h => zw h (fun _ _ => rfl) (fun _ _ => rfl)) (zvw N)
def zaa : Nat -> Keep × Keep := anL [(4, ⟨[0, 1, 5], [], [0], [], [], [], [], [0], false, none, []⟩, ⟨[4], [], [0], [], [], [], [], [0], false, none, []⟩)]
def zxe (N : Nat) : GamK := gam (P := qP) []
def Zx (N : Nat) : LSpec where
 X := Nat × Int × Int × qA
 Y := (Bool × qA) ⊕ (qA)
 p := fun s => rdS 18 1 [(0, .vs0 0 1), (1, .int .i64), (5, .int .i64)] [(0, .tt)] s fun ⟨a0, a1, a2, _⟩ ⟨a3, _⟩ => (a0, a1, a2, a3)
 st := fun u4 => mkS 18 [(0, (AV.vs 0 0 u4.1 1)), (1, (qI u4.2.1)), (5, (qI u4.2.2.1))] [(0, u4.2.2.2)] (zaa 4).1.toks 1
 out := fun y => match y with
  | .inl y => (.ret, mkS 18 [(4, (AV.v (.bool y.1)))] [(0, y.2)] (zaa 4).2.toks 1)
  | .inr y => (.exit 0, mkS 18 [] [(0, y)] (zaa 4).2.toks 1)
 b := fun u4 α kn ke => (match (decide (u4.2.2.1 < ((u4.1 : Nat) : Int))) with | true => (if 0 <= u4.2.2.1 /\ u4.2.2.1 < (u4.1 : Int) then (match u4.2.2.2[((0 + u4.2.2.1.toNat) * 1)]? with | some x4 => (match x4 with | .v (.int q6 n5) => (if q6 = .i64 then (match (n5 == u4.2.1) with | true => (ke (.inl (true, (u4.2.2.2.map dat0)))) | false => (kn (u4.1, u4.2.1, (i64 (u4.2.2.1 + 1)), (u4.2.2.2.map dat0)))) else none) | _ => none) | none => none) else none) | false => (ke (.inr (u4.2.2.2.map dat0))))
abbrev zqr (N : Nat) (x : Nat × Int × Int × qA) : Option ((Bool × qA) ⊕ (qA)) := (Zx N).L N x
def zeT (N : Nat) : FSpec where
 X := Nat × Int × qA
 Y := Bool × qA
 ash := [[none], [none]]
 bsh := [[]]
 S := ⟨[[none]], [[]], [], [], [0]⟩
 pat := fun a b => rdA [.vs0 0 1, .int .i64] [.tt] a b fun ⟨a0, a1, _⟩ ⟨a2, _⟩ => (a0, a1, a2)
 args := fun x => [(AV.vs 0 0 x.1 1), (AV.v (.int .i64 x.2.1))]
 bs := fun x => [x.2.2]
 ret := fun y => ⟨(AV.v (.bool y.1)), [y.2], none, [], [], [0], none⟩
 t := fun x α k => (match zqr N (x.1, x.2.1, 0, (x.2.2.map dat0)) with | some y7 => (match y7 with | .inl z8 => (k (z8.1, (z8.2.map dat0))) | .inr z9 => (k (false, (z9.map dat0)))) | none => none)
abbrev zfZ (N : Nat) (x : Nat × Int × qA) : Option (Bool × qA) := (zeT N).d x
def zcZ (N : Nat) : List (Nat × LSpec) := [(4, Zx N)]
def ziN : Code := Tryd.f60.body.getD .skip
theorem znf (N : Nat) : Par (Zx N).b := by
 intro x α β kn ke kn' ke' r r' h h1 h2
 revert h
 dsimp only [Zx]
 (repeat' (first | (with_reducible refine ze ?_ ?_) | split)) <;> intro h <;> first | exact h1 _ h | exact h2 _ h | cases h
theorem zkm (N : Nat) : jh (zn qP) (zxe N) zaa N (zcZ N) 4 ziN (Zx N) := fun x α kn ke => by kernel_rfl
theorem zkn (N : Nat) : ZK qP zaa N (zcZ N) 4 (zc 4 ziN) :=
 zD (zd qP) (zi _) zl zaa N (zcZ N) 4 ziN (l := []) (by kernel_rfl) (by kernel_rfl) an (Zx N) rfl (fun s x hc h => by dsimp only [Zx] at h; exact zJ hc h (fun _ _ => rfl) rfl rfl rfl) (fun _ => rfl) (zkm N) (znf N)
theorem zoC (N : Nat) : Zd (zeT N).t := by
 intro x α β k k' r r' h h1
 revert h
 dsimp only [zeT]
 (repeat' (first | (with_reducible refine ze ?_ ?_) | split)) <;> intro h <;> first | exact h1 _ h | cases h
theorem zoa (N : Nat) : Zh (zn qP) (zxe N) zaa (lam N (zcZ N)) Tryd.f60 (zeT N) := fun x => by kernel_rfl
def zxi (N : Nat) : Ent qP := zA (zd qP) (zi _) zl 60 Tryd.f60 Tryd.func60 rfl zaa (lam N (zcZ N)) (zm (l := [(4, zc 4 ziN)]) (al (zkn N) an) (by kernel_rfl)) (zeT N) (fun _ => ⟨rfl, rfl⟩) (zoa N) (fun _ _ _ h => zw h (fun _ _ => rfl) (fun _ _ => rfl)) (zoC N)
def zbX : Nat -> Keep × Keep := anL [(4, qK [1, 2, 5] [] [2], qK [4] [] [])]
def zAc (N : Nat) : GamK := gam (P := qP) [zrm N]
def jJ (N : Nat) : LSpec where
 X := Int × Int × qL
 Y := (Bool) ⊕ (Unit)
 p := fun s => rdS 22 0 [(1, .int .i64), (2, .ptr 2 0), (5, .int .i64)] [(2, .cells [.lst 1])] s fun ⟨a0, _, a1, _⟩ ⟨⟨a2, _⟩, _⟩ => (a0, a1, a2)
 st := fun u4 => mkS 22 [(1, (qI u4.1)), (2, (AV.ptr 2 0)), (5, (qI u4.2.1))] [(2, [(AV.list 1 u4.2.2 none)])] (zbX 4).1.toks 0
 out := fun y => match y with
  | .inl y => (.ret, mkS 22 [(4, (AV.v (.bool y)))] [] (zbX 4).2.toks 0)
  | .inr y => (.exit 0, mkS 22 [] [] (zbX 4).2.toks 0)
 b := fun u4 α kn ke => (match (decide (u4.2.1 < (u4.2.2.length : Int))) with | true => (if 0 <= u4.2.1 then (match u4.2.2[u4.2.1.toNat]? with | some c1 => (match zfU c1 with | some e2 => (match zh3 N e2.1 with | some y3 => (match (decide (y3.2.1 > u4.1)) with | true => (ke (.inl false)) | false => (kn (u4.1, (i64 (u4.2.1 + 1)), u4.2.2))) | none => none) | none => none) | none => none) else none) | false => (ke (.inr ())))
abbrev zxd (N : Nat) (x : Int × Int × qL) : Option ((Bool) ⊕ (Unit)) := (jJ N).L N x
def zd7 (N : Nat) : FSpec where
 X := qL × Int
 Y := Bool
 ash := [[some 1], [none]]
 S := ⟨[[none]], [], [], [], []⟩
 pat := fun a b => zk a fun v1 c2 => jg v1 fun c3 => zk c3 fun c4 c5 => Z3 1 c4 fun a0 => zQ c5 <| zk c2 fun v6 c7 => jO .i64 v6 fun a1 => zQ c7 <| zQ b <| some (a0, a1)
 args := fun x => [(AV.agg [(AV.list 1 x.1 none)]), (AV.v (.int .i64 x.2))]
 ret := fun y => ⟨(AV.v (.bool y)), [], none, [], [], [], none⟩
 t := fun x α k => (match zxd N (x.2, 0, x.1) with | some y4 => (match y4 with | .inl z5 => (k z5) | .inr z6 => (k true)) | none => none)
abbrev zvI (N : Nat) (x : qL × Int) : Option (Bool) := (zd7 N).d x
def zgu (N : Nat) : List (Nat × LSpec) := [(4, jJ N)]
def zuC : Code := Tryd.f57.body.getD .skip
theorem zvf (N : Nat) : Par (jJ N).b := by
 intro x α β kn ke kn' ke' r r' h h1 h2
 revert h
 dsimp only [jJ]
 (repeat' (first | (with_reducible refine ze ?_ ?_) | split)) <;> intro h <;> first | exact h1 _ h | exact h2 _ h | cases h
theorem zpX (N : Nat) : jh (zn qP) (zAc N) zbX N (zgu N) 4 zuC (jJ N) := fun x α kn ke => by kernel_rfl
theorem zmr (N : Nat) : ZK qP zbX N (zgu N) 4 (zc 4 zuC) :=
 zD (zd qP) (zi _) zl zbX N (zgu N) 4 zuC (l := []) (by kernel_rfl) (by kernel_rfl) an (jJ N) rfl (fun s x hc h => by dsimp only [jJ] at h; exact zJ hc h (fun _ _ => rfl) rfl rfl rfl) (fun _ => rfl) (zpX N) (zvf N)
theorem zt6 (N : Nat) : Zd (zd7 N).t := by
 intro x α β k k' r r' h h1
 revert h
 dsimp only [zd7]
 (repeat' (first | (with_reducible refine ze ?_ ?_) | split)) <;> intro h <;> first | exact h1 _ h | cases h
theorem zq1 (N : Nat) : Zh (zn qP) (zAc N) zbX (lam N (zgu N)) Tryd.f57 (zd7 N) := fun x => by kernel_rfl
theorem zx9 (N : Nat) (a : List AV) (b : qL) (x : (zd7 N).X) (h : (zd7 N).pat a b = some x) : a = (zd7 N).args x /\ b = (zd7 N).bs x := by
 obtain ⟨v1, c2, rfl, g0⟩ := zb (show zk _ _ = some x from h)
 obtain ⟨c3, rfl, g1⟩ := zR g0; clear g0
 obtain ⟨c4, c5, rfl, g2⟩ := zb g1; clear g1
 obtain ⟨a0, rfl, g3⟩ := zr g2; clear g2
 obtain ⟨rfl, g4⟩ := zg g3; clear g3
 obtain ⟨v6, c7, rfl, g5⟩ := zb g4; clear g4
 obtain ⟨a1, rfl, g6⟩ := zC g5; clear g5
 obtain ⟨rfl, g7⟩ := zg g6; clear g6
 obtain ⟨rfl, g8⟩ := zg g7; clear g7
 clear h
 cases g8
 exact ⟨rfl, rfl⟩
def zCh (N : Nat) : Ent qP := zA (zd qP) (zi _) zl 57 Tryd.f57 Tryd.func57 rfl zbX (lam N (zgu N)) (zm (l := [(4, zc 4 zuC)]) (al (zmr N) an) (by kernel_rfl)) (zd7 N) (fun _ => ⟨rfl, rfl⟩) (zq1 N) (zx9 N) (zt6 N)
end
end Go.Proofs.YthdgnfcbehcplaaDoor
end
section
namespace Go.Proofs.YthdgnfcbehcplaaDoor
noncomputable section
open Go.RowKit
set_option maxRecDepth 4000
set_option maxHeartbeats 4000000
def zaO : Nat -> Keep × Keep := anL [(5, ⟨[1, 2, 3, 4], [], [1, 2, 3], [], [((2, 0), 1)], [], [((3, 0), 1)], [], false, some 2012288, []⟩, ⟨[2, 3], [], [2, 3], [], [((2, 0), 1)], [], [((3, 0), 1)], [], false, some 2012288, []⟩)]
def zwR (N : Nat) : GamK := gam (P := qP) []
def ZU (N : Nat) : LSpec where
 X := Int × qL × qL × Nat × qA × Nat × Nat
 Y := (qL × Nat × qA × Nat × Nat)
 p := fun s => rdF 27 0 2012288 [(1, .ptr 1 0), (2, .ptr 2 0), (3, .ptr 3 0), (4, .int .i64)] [(1, .cells [.lst 1]), (2, .cells [.tok 1 6400524288]), (3, .cells [.vs0 2012288 1]), (2012288, .tt)] s fun ⟨_, _, _, a0, _⟩ ⟨⟨a1, _⟩, ⟨a2, _⟩, ⟨a3, _⟩, a4, _⟩ a5 a6 => (a0, a1, a2, a3, a4, a5, a6)
 st := fun u5 => mkF 27 [(1, (AV.ptr 1 0)), (2, (AV.ptr 2 0)), (3, (AV.ptr 3 0)), (4, (qI u5.1))] [(1, [(AV.list 1 u5.2.1 none)]), (2, [(AV.list 1 u5.2.2.1 (some 6400524288))]), (3, [(AV.vs 2012288 0 u5.2.2.2.1 1)]), (2012288, u5.2.2.2.2.1)] (zaO 5).1.toks 0 (some (2012288, u5.2.2.2.2.2.1, u5.2.2.2.2.2.2))
 out := fun y => (.exit 0, mkF 27 [(2, (AV.ptr 2 0)), (3, (AV.ptr 3 0))] [(2, [(AV.list 1 y.1 (some 6400524288))]), (3, [(AV.vs 2012288 0 y.2.1 1)]), (2012288, y.2.2.1)] (zaO 5).2.toks 0 (some (2012288, y.2.2.2.1, y.2.2.2.2)))
 b := fun u5 α kn ke => (match (decide (u5.1 < (u5.2.1.length : Int))) with | true => (if 0 <= u5.1 then (match u5.2.1[u5.1.toNat]? with | some c4 => (match (c4.drop 0)[0]? with | some x5 => (match Z2 29 x5 with | some l6 => (if (([] : qL).length + l6.length) * 288 <= zh then (if (u5.2.2.2.2.2.2 = u5.2.2.2.1 /\ u5.2.2.2.2.2.1 <= u5.2.2.2.2.2.2) /\ u5.2.2.2.1 * 1 <= u5.2.2.2.2.1.length /\ (u5.2.2.2.1 + 1) * 24 <= zh then (kn ((i64 (u5.1 + 1)), u5.2.1, u5.2.2.1, (u5.2.2.2.1 + 1), ((u5.2.2.2.2.1.take (u5.2.2.2.1 * 1) ++ [AV.list 29 (([] : qL) ++ l6) (some (TOB + u5.2.2.2.2.2.2))]).map datF), u5.2.2.2.2.2.1, (u5.2.2.2.2.2.2 + 1))) else none) else none) | none => none) | none => none) | none => none) else none) | false => (ke (u5.2.2.1, u5.2.2.2.1, (u5.2.2.2.2.1.map datF), u5.2.2.2.2.2)))
abbrev zmn (N : Nat) (x : Int × qL × qL × Nat × qA × Nat × Nat) : Option ((qL × Nat × qA × Nat × Nat)) := (ZU N).L N x
def zan (N : Nat) : FSpec where
 X := qL
 Y := Nat × qA × Nat × Nat
 ash := [[some 1]]
 S := ⟨[[some 1]], [], [], [], []⟩
 bm := true
 pat := fun a b => zk a fun v1 c2 => jg v1 fun c3 => zk c3 fun c4 c5 => Z3 1 c4 fun a0 => zQ c5 <| zQ c2 <| zQ b <| some a0
 args := fun x => [(AV.agg [(AV.list 1 x none)])]
 ret := fun y => ⟨(AV.agg [(AV.vs 0 0 y.1 1)]), [], some y.2.1, [], [], [], some (y.2.2.1, y.2.2.2)⟩
 t := fun x α k => (match zmn N (0, x, ([] : qL), 0, ([] : List AV), 0, 0) with | some y7 => (k (y7.2.1, (y7.2.2.1.map datF), y7.2.2.2)) | none => none)
abbrev zgi (N : Nat) (x : qL) : Option (Nat × qA × Nat × Nat) := (zan N).d x
def zdE (N : Nat) : List (Nat × LSpec) := [(5, ZU N)]
def ziQ : Code := Tryd.f58.body.getD .skip
theorem znv (N : Nat) : Par (ZU N).b := by
 intro x α β kn ke kn' ke' r r' h h1 h2
 revert h
 dsimp only [ZU]
 (repeat' (first | (with_reducible refine ze ?_ ?_) | split)) <;> intro h <;> first | exact h1 _ h | exact h2 _ h | cases h
theorem zkT (N : Nat) : jh (JT qP [23, 24]) (zwR N) zaO N (zdE N) 5 ziQ (ZU N) := fun x α kn ke => by kernel_rfl
theorem zkp (N : Nat) : ZK qP zaO N (zdE N) 5 (zc 5 ziQ) :=
 zD (zL qP [23, 24]) (zi _) zl zaO N (zdE N) 5 ziQ (l := []) (by kernel_rfl) (by kernel_rfl) an (ZU N) rfl (fun s x hc h => by dsimp only [ZU] at h; exact za5 hc h (fun _ _ _ _ => rfl) rfl rfl) (fun _ => rfl) (zkT N) (znv N)
theorem zl5 (N : Nat) : Zd (zan N).t := by
 intro x α β k k' r r' h h1
 revert h
 dsimp only [zan]
 (repeat' (first | (with_reducible refine ze ?_ ?_) | split)) <;> intro h <;> first | exact h1 _ h | cases h
theorem zmR (N : Nat) : Zh (JT qP [23, 24]) (zwR N) zaO (lam N (zdE N)) Tryd.f58 (zan N) := fun x => by kernel_rfl
theorem zvi (N : Nat) (a : List AV) (b : qL) (x : (zan N).X) (h : (zan N).pat a b = some x) : a = (zan N).args x /\ b = (zan N).bs x := by
 obtain ⟨v1, c2, rfl, g0⟩ := zb (show zk _ _ = some x from h)
 obtain ⟨c3, rfl, g1⟩ := zR g0; clear g0
 obtain ⟨c4, c5, rfl, g2⟩ := zb g1; clear g1
 obtain ⟨a0, rfl, g3⟩ := zr g2; clear g2
 obtain ⟨rfl, g4⟩ := zg g3; clear g3
 obtain ⟨rfl, g5⟩ := zg g4; clear g4
 obtain ⟨rfl, g6⟩ := zg g5; clear g5
 clear h
 cases g6
 exact ⟨rfl, rfl⟩
def zxn (N : Nat) : Ent qP := zA (zL qP [23, 24]) (zi _) zl 58 Tryd.f58 Tryd.func58 rfl zaO (lam N (zdE N)) (zm (l := [(5, zc 5 ziQ)]) (al (zkp N) an) (by kernel_rfl)) (zan N) (fun _ => ⟨rfl, rfl⟩) (zmR N) (zvi N) (zl5 N)
def Jd : Nat -> Keep × Keep := anF [(2, ⟨[1, 3, 5, 6], [], [3, 5, 6], [], [((6, 0), 1)], [], [], [], true, none, []⟩, ⟨[1, 3, 5, 6, 7], [], [3, 5, 6], [], [((6, 0), 1)], [], [], [], false, none, []⟩), (19, ⟨[1, 3, 5, 6, 8], [], [3, 5, 6, 8], [], [((6, 0), 1)], [], [], [], true, none, []⟩, ⟨[1, 3, 5, 6, 7, 8], [], [3, 5, 6, 8], [], [((6, 0), 1)], [], [], [], false, none, []⟩)] [(100018, ([], [((9, 0), 1)]))]
def zzP (N : Nat) : GamK := gam (P := qP) [zBv N, zAz N, zx8 N, zCh N, zrm N, zzs N, zAf N, zxn N]
def jk (N : Nat) : LSpec where
 X := Int × qL × RT7 × qL × RT7
 Y := (Int × Int × qL × RT7 × qL × RT7) ⊕ (Int × qL × RT7 × qL × RT7)
 p := fun s => rdS 127 0 [(1, .int .i64), (3, .ptr 3 0), (5, .ptr 5 0), (6, .ptr 6 0), (8, .ptr 8 0)] [(3, .cells [.lst 1]), (5, .row RK7), (6, .cells [.tok 1 6401572864]), (8, .row RK7)] s fun ⟨a0, _, _, _, _, _⟩ ⟨⟨a1, _⟩, a2, ⟨a3, _⟩, a4, _⟩ => (a0, a1, a2, a3, a4)
 st := fun u19 => mkS 127 [(1, (qI u19.1)), (3, (AV.ptr 3 0)), (5, (AV.ptr 5 0)), (6, (AV.ptr 6 0)), (8, (AV.ptr 8 0))] [(3, [(AV.list 1 u19.2.1 none)]), (5, (zN u19.2.2.1)), (6, [(AV.list 1 u19.2.2.2.1 (some 6401572864))]), (8, (zN u19.2.2.2.2))] (Jd 19).1.toks 0
 out := fun y => match y with
  | .inl y => (.ret, mkS 127 [(1, (qI y.1)), (3, (AV.ptr 3 0)), (5, (AV.ptr 5 0)), (6, (AV.ptr 6 0)), (7, (qI y.2.1)), (8, (AV.ptr 8 0))] [(3, [(AV.list 1 y.2.2.1 none)]), (5, (zN y.2.2.2.1)), (6, [(AV.list 1 y.2.2.2.2.1 (some 6401572864))]), (8, (zN y.2.2.2.2.2))] (Jd 19).2.toks 0)
  | .inr y => (.normal, mkS 127 [(1, (qI y.1)), (3, (AV.ptr 3 0)), (5, (AV.ptr 5 0)), (6, (AV.ptr 6 0)), (8, (AV.ptr 8 0))] [(3, [(AV.list 1 y.2.1 none)]), (5, (zN y.2.2.1)), (6, [(AV.list 1 y.2.2.2.1 (some 6401572864))]), (8, (zN y.2.2.2.2))] (Jd 19).2.toks 0)
 b := fun u19 α kn ke => (match (u19.2.2.1.1 == 5) with | true => (match (u19.2.2.1.2.2.2.1 == u19.1) with | true => (ke (.inl (u19.1, 10, u19.2.1, u19.2.2.1, ([] : qL), u19.2.2.2.2))) | false => (match (u19.2.2.1.1 == 6) with | true => (match zhA N u19.2.2.2.2 with | some y21 => (match y21 with | true => (ke (.inl (u19.1, 10, u19.2.1, u19.2.2.1, ([] : qL), u19.2.2.2.2))) | false => (ke (.inr u19))) | none => none) | false => (ke (.inr u19)))) | false => (match (u19.2.2.1.1 == 6) with | true => (match zhA N u19.2.2.2.2 with | some y22 => (match y22 with | true => (ke (.inl (u19.1, 10, u19.2.1, u19.2.2.1, ([] : qL), u19.2.2.2.2))) | false => (ke (.inr u19))) | none => none) | false => (ke (.inr u19))))
abbrev zfM (N : Nat) (x : Int × qL × RT7 × qL × RT7) : Option ((Int × Int × qL × RT7 × qL × RT7) ⊕ (Int × qL × RT7 × qL × RT7)) := (jk N).L N x
def zat (N : Nat) : LSpec where
 X := Int × qL × RT7 × qL
 Y := (Int × Int × qL × RT7 × qL) ⊕ (Int × qL × RT7 × qL)
 p := fun s => rdS 127 0 [(1, .int .i64), (3, .ptr 3 0), (5, .ptr 5 0), (6, .ptr 6 0)] [(3, .cells [.lst 1]), (5, .row RK7), (6, .cells [.tok 1 6401572864])] s fun ⟨a0, _, _, _, _⟩ ⟨⟨a1, _⟩, a2, ⟨a3, _⟩, _⟩ => (a0, a1, a2, a3)
 st := fun u2 => mkS 127 [(1, (qI u2.1)), (3, (AV.ptr 3 0)), (5, (AV.ptr 5 0)), (6, (AV.ptr 6 0))] [(3, [(AV.list 1 u2.2.1 none)]), (5, (zN u2.2.2.1)), (6, [(AV.list 1 u2.2.2.2 (some 6401572864))])] (Jd 2).1.toks 0
 out := fun y => match y with
  | .inl y => (.ret, mkS 127 [(1, (qI y.1)), (3, (AV.ptr 3 0)), (5, (AV.ptr 5 0)), (6, (AV.ptr 6 0)), (7, (qI y.2.1))] [(3, [(AV.list 1 y.2.2.1 none)]), (5, (zN y.2.2.2.1)), (6, [(AV.list 1 y.2.2.2.2 (some 6401572864))])] (Jd 2).2.toks 0)
  | .inr y => (.normal, mkS 127 [(1, (qI y.1)), (3, (AV.ptr 3 0)), (5, (AV.ptr 5 0)), (6, (AV.ptr 6 0))] [(3, [(AV.list 1 y.2.1 none)]), (5, (zN y.2.2.1)), (6, [(AV.list 1 y.2.2.2 (some 6401572864))])] (Jd 2).2.toks 0)
 b := fun u2 α kn ke => (match zsY N u2.2.1 with | some y7 => (match (!y7) with | true => (ke (.inl (u2.1, 1, u2.2.1, u2.2.2.1, ([] : qL)))) | false => (match zrD N u2.2.2.1.2.2.1 with | some y8 => (match (!y8) with | true => (ke (.inl (u2.1, 1, u2.2.1, u2.2.2.1, ([] : qL)))) | false => (match (u2.2.2.1.1 == 3) with | true => (match zcF N ([(zB (zx u2.2.2.1))]) with | some y9 => (match (!y9) with | true => (ke (.inl (u2.1, 1, u2.2.1, u2.2.2.1, ([] : qL)))) | false => (ke (.inr u2))) | none => none) | false => (ke (.inr u2)))) | none => none)) | none => none)
abbrev zv6 (N : Nat) (x : Int × qL × RT7 × qL) : Option ((Int × Int × qL × RT7 × qL) ⊕ (Int × qL × RT7 × qL)) := (zat N).L N x
def zdZ (N : Nat) : FSpec where
 X := qL × Int × RT7
 Y := qL × Int
 ash := [[some 1], [none], [none, none, none, none, none, none, none, none, none, none, none, none, none, some 9, none, none, none, none, none, none, none, none, none, none, none, none, none, none, none]]
 S := ⟨[[some 1], [none]], [], [], [], []⟩
 pat := fun a b => zk a fun v1 c2 => jg v1 fun c3 => zk c3 fun c4 c5 => Z3 1 c4 fun a0 => zQ c5 <| zk c2 fun v6 c7 => jO .i64 v6 fun a1 => zk c7 fun v8 c9 => zwT RK7 v8 fun a2 => zQ c9 <| zQ b <| some (a0, a1, a2)
 args := fun x => [(AV.agg [(AV.list 1 x.1 none)]), (AV.v (.int .i64 x.2.1)), (AV.agg (zN x.2.2))]
 ret := fun y => ⟨(AV.tup [(AV.agg [(AV.list 1 y.1 none)]), (AV.v (.int .i64 y.2))]), [], none, [], [], [], none⟩
 t := fun x α k => (match zv6 N (x.2.1, x.1, x.2.2, ([] : qL)) with | some y10 => (match y10 with | .inl z11 => (k (z11.2.2.2.2, z11.2.1)) | .inr z12 => (match (decide (z12.1 < 0)) with | true => (k (([] : qL), 6)) | false => (match (decide (z12.1 >= (z12.2.1.length : Int))) with | true => (k (([] : qL), 6)) | false => (match (decide (z12.2.2.1.2.2.2.1 < 0)) with | true => (k (([] : qL), 6)) | false => (match (decide (z12.2.2.1.2.2.2.1 >= (z12.2.1.length : Int))) with | true => (k (([] : qL), 6)) | false => (match (decide (z12.2.2.1.2.1 < 0)) with | true => (k (([] : qL), 2)) | false => (match (decide (z12.2.2.1.2.1 > 18014398509481984)) with | true => (k (([] : qL), 2)) | false => (match zvI N (z12.2.1, z12.2.2.1.2.1) with | some y13 => (match (!y13) with | true => (k (([] : qL), 9)) | false => (if 0 <= z12.1 then (match z12.2.1[z12.1.toNat]? with | some c14 => (match zfU c14 with | some e15 => (match zh3 N e15.1 with | some y16 => (match zfM N (z12.1, z12.2.1, z12.2.2.1, z12.2.2.2, y16) with | some y23 => (match y23 with | .inl z24 => (k (z24.2.2.2.2.1, z24.2.1)) | .inr z25 => (if 0 <= z25.1 then (match z25.2.1[z25.1.toNat]? with | some c26 => (match (c26.drop 0)[0]? with | some x27 => (match Z2 29 x27 with | some l28 => (match ((l28.length : Int) == 100) with | true => (k (([] : qL), 8)) | false => (match zig N z25.2.2.1.1 with | some y29 => (match y29 with | true => (match zgi N z25.2.1 with | some y30 => (if 0 <= z25.1 /\ z25.1 < (y30.1 : Int) then (match (y30.2.1.map (datJ y30.2.2.1 y30.2.2.2))[(((0 + z25.1.toNat) * 1) + 0)]? with | some c31 => (match c31 with | .list n32 l33 (some q34) => (if n32 = 29 /\ q34 = TOB + (((0 + z25.1.toNat) * 1) + 0) /\ y30.2.2.1 <= (((0 + z25.1.toNat) * 1) + 0) /\ (((0 + z25.1.toNat) * 1) + 0) < y30.2.2.2 then (if (l33.length + [(zN (z25.2.2.1.1, z25.2.2.1.2.1, z25.2.2.1.2.2.1, z25.2.2.1.2.2.2.1, z25.2.2.2.2.2.2.2.2))].length) * 288 <= zh then (if 0 <= z25.1 /\ z25.1 < (y30.1 : Int) then (if (((0 + z25.1.toNat) * 1) + 0) + 1 <= (y30.2.1.map (datJ y30.2.2.1 y30.2.2.2)).length then (if y30.1 * 1 <= (splice (y30.2.1.map (datJ y30.2.2.1 y30.2.2.2)) (((0 + z25.1.toNat) * 1) + 0) [(AV.list 29 (l33 ++ [(zN (z25.2.2.1.1, z25.2.2.1.2.1, z25.2.2.1.2.2.1, z25.2.2.1.2.2.2.1, z25.2.2.2.2.2.2.2.2))]) (some 7872))]).length then (k ((zK ((splice (y30.2.1.map (datJ y30.2.2.1 y30.2.2.2)) (((0 + z25.1.toNat) * 1) + 0) [(AV.list 29 (l33 ++ [(zN (z25.2.2.1.1, z25.2.2.1.2.1, z25.2.2.1.2.2.1, z25.2.2.1.2.2.2.1, z25.2.2.2.2.2.2.2.2))]) (some 7872))]).take (y30.1 * 1)) 1 y30.1), 0)) else none) else none) else none) else none) else none) | _ => none) | none => none) else none) | none => none) | false => (match zgi N z25.2.1 with | some y35 => (if 0 <= z25.1 /\ z25.1 < (y35.1 : Int) then (match (y35.2.1.map (datJ y35.2.2.1 y35.2.2.2))[(((0 + z25.1.toNat) * 1) + 0)]? with | some c36 => (match c36 with | .list n37 l38 (some q39) => (if n37 = 29 /\ q39 = TOB + (((0 + z25.1.toNat) * 1) + 0) /\ y35.2.2.1 <= (((0 + z25.1.toNat) * 1) + 0) /\ (((0 + z25.1.toNat) * 1) + 0) < y35.2.2.2 then (if (l38.length + [(zN z25.2.2.1)].length) * 288 <= zh then (if 0 <= z25.1 /\ z25.1 < (y35.1 : Int) then (if (((0 + z25.1.toNat) * 1) + 0) + 1 <= (y35.2.1.map (datJ y35.2.2.1 y35.2.2.2)).length then (if y35.1 * 1 <= (splice (y35.2.1.map (datJ y35.2.2.1 y35.2.2.2)) (((0 + z25.1.toNat) * 1) + 0) [(AV.list 29 (l38 ++ [(zN z25.2.2.1)]) (some 7872))]).length then (k ((zK ((splice (y35.2.1.map (datJ y35.2.2.1 y35.2.2.2)) (((0 + z25.1.toNat) * 1) + 0) [(AV.list 29 (l38 ++ [(zN z25.2.2.1)]) (some 7872))]).take (y35.1 * 1)) 1 y35.1), 0)) else none) else none) else none) else none) else none) | _ => none) | none => none) else none) | none => none)) | none => none)) | none => none) | none => none) | none => none) else none)) | none => none) | none => none) | none => none) | none => none) else none)) | none => none)))))))) | none => none)
abbrev zdV (N : Nat) (x : qL × Int × RT7) : Option (qL × Int) := (zdZ N).d x
def zbF (N : Nat) : List (Nat × LSpec) := [(2, zat N), (19, jk N)]
def zgF : Code := Tryd.f54.body.getD .skip
theorem zmO (N : Nat) : Par (jk N).b := by
 intro x α β kn ke kn' ke' r r' h h1 h2
 revert h
 dsimp only [jk]
 (repeat' (first | (with_reducible refine ze ?_ ?_) | split)) <;> intro h <;> first | exact h1 _ h | exact h2 _ h | cases h
theorem zlP (N : Nat) : zlV (JT qP [111, 120]) (zzP N) Jd N (zbF N) 19 zgF (jk N) := fun x α kn ke => by kernel_rfl
theorem zk3 (N : Nat) : ZK qP Jd N (zbF N) 19 (zc 19 zgF) :=
 j6 (zL qP [111, 120]) (zi _) zl Jd N (zbF N) 19 zgF (l := []) (by kernel_rfl) an (jk N) rfl (fun s x hc h => by dsimp only [jk] at h; exact zJ hc h (fun _ _ => rfl) rfl rfl rfl) (zlP N) (zmO N)
theorem zu8 (N : Nat) : Par (zat N).b := by
 intro x α β kn ke kn' ke' r r' h h1 h2
 revert h
 dsimp only [zat]
 (repeat' (first | (with_reducible refine ze ?_ ?_) | split)) <;> intro h <;> first | exact h1 _ h | exact h2 _ h | cases h
theorem zpj (N : Nat) : zlV (JT qP [111, 120]) (zzP N) Jd N (zbF N) 2 zgF (zat N) := fun x α kn ke => by kernel_rfl
theorem zof (N : Nat) : ZK qP Jd N (zbF N) 2 (zc 2 zgF) :=
 j6 (zL qP [111, 120]) (zi _) zl Jd N (zbF N) 2 zgF (l := []) (by kernel_rfl) an (zat N) rfl (fun s x hc h => by dsimp only [zat] at h; exact zJ hc h (fun _ _ => rfl) rfl rfl rfl) (zpj N) (zu8 N)
theorem ztJ (N : Nat) : Zd (zdZ N).t := by
 intro x α β k k' r r' h h1
 revert h
 dsimp only [zdZ]
 (repeat' (first | (with_reducible refine ze ?_ ?_) | split)) <;> intro h <;> first | exact h1 _ h | cases h
theorem zuW (N : Nat) : Zh (JT qP [111, 120]) (zzP N) Jd (lam N (zbF N)) Tryd.f54 (zdZ N) := fun x => by kernel_rfl
theorem zy6 (N : Nat) (a : List AV) (b : qL) (x : (zdZ N).X) (h : (zdZ N).pat a b = some x) : a = (zdZ N).args x /\ b = (zdZ N).bs x := by
 obtain ⟨v1, c2, rfl, g0⟩ := zb (show zk _ _ = some x from h)
 obtain ⟨c3, rfl, g1⟩ := zR g0; clear g0
 obtain ⟨c4, c5, rfl, g2⟩ := zb g1; clear g1
 obtain ⟨a0, rfl, g3⟩ := zr g2; clear g2
 obtain ⟨rfl, g4⟩ := zg g3; clear g3
 obtain ⟨v6, c7, rfl, g5⟩ := zb g4; clear g4
 obtain ⟨a1, rfl, g6⟩ := zC g5; clear g5
 obtain ⟨v8, c9, rfl, g7⟩ := zb g6; clear g6
 obtain ⟨a2, rfl, g8⟩ := zdL g7; clear g7
 obtain ⟨rfl, g9⟩ := zg g8; clear g8
 obtain ⟨rfl, g10⟩ := zg g9; clear g9
 clear h
 cases g10
 exact ⟨rfl, rfl⟩
def zry (N : Nat) : Ent qP := zA (zL qP [111, 120]) (zi _) zl 54 Tryd.f54 Tryd.func54 rfl Jd (lam N (zbF N)) (zm (l := [(2, zc 2 zgF), (19, zc 19 zgF)]) (al (zof N) (al (zk3 N) an)) (by kernel_rfl)) (zdZ N) (fun _ => ⟨rfl, rfl⟩) (zuW N) (zy6 N) (ztJ N)
def zv7 : Nat -> Keep × Keep := anL []
def zDA (N : Nat) : GamK := gam (P := qP) []
def zkS (N : Nat) : FSpec where
 X := RT7
 Y := Bool
 ash := [[none, none, none, none, none, none, none, none, none, none, none, none, none, some 9, none, none, none, none, none, none, none, none, none, none, none, none, none, none, none]]
 S := ⟨[[none]], [], [], [], []⟩
 pat := fun a b => rdA [.agg RK7] [] a b fun ⟨a0, _⟩ _ => a0
 args := fun x => [(AV.agg (zN x))]
 ret := fun y => ⟨(AV.v (.bool y)), [], none, [], [], [], none⟩
 t := fun x α k => (match (x.1 == 1) with | true => (k true) | false => (match (x.1 == 3) with | true => (k true) | false => (k (x.1 == 6))))
abbrev zyv (N : Nat) (x : RT7) : Option (Bool) := (zkS N).d x
theorem zuQ (N : Nat) : Zd (zkS N).t := by
 intro x α β k k' r r' h h1
 revert h
 dsimp only [zkS]
 (repeat' (first | (with_reducible refine ze ?_ ?_) | split)) <;> intro h <;> first | exact h1 _ h | cases h
theorem zur (N : Nat) : Zh (zn qP) (zDA N) zv7 (lam N []) Tryd.f17 (zkS N) := fun x => by kernel_rfl
def zEu (N : Nat) : Ent qP := zA (zd qP) (zi _) zl 17 Tryd.f17 Tryd.func17 rfl zv7 (lam N []) (zm (l := []) an (by kernel_rfl)) (zkS N) (fun _ => ⟨rfl, rfl⟩) (zur N) (fun _ _ _ h => zw h (fun _ _ => rfl) (fun _ _ => rfl)) (zuQ N)
def ZL : Nat -> Keep × Keep := anL [(5, ⟨[2, 6], [], [2], [(1, 25)], [], [(5, 1)], [], [], false, none, []⟩, ⟨[2], [], [2], [(1, 25)], [], [(5, 1)], [], [], false, none, []⟩), (18, ⟨[2, 5, 8], [], [2, 1000005], [(1, 25)], [], [], [], [1000005], false, none, []⟩, ⟨[5], [], [1000005], [], [], [], [], [1000005], false, none, []⟩), (26, ⟨[2, 5, 8, 9], [], [2, 1000005], [(1, 25)], [], [], [], [1000005], false, none, []⟩, ⟨[2, 5, 8], [], [2, 1000005], [(1, 25)], [], [], [], [1000005], false, none, []⟩)]
def ziH (N : Nat) : GamK := gam (P := qP) [zrm N, zDe N, zxi N, zDR N]
def zP (N : Nat) : LSpec where
 X := qL × Nat × Int × Int × qL × qA
 Y := (qL × Nat × Int × qL × qA)
 p := fun s => rdS 81 0 [(1, .lst 25), (2, .ptr 2 0), (5, .vs0 1000005 1), (8, .int .i64), (9, .int .i64)] [(2, .cells [.lst 1]), (1000005, .tt)] s fun ⟨a0, _, a1, a2, a3, _⟩ ⟨⟨a4, _⟩, a5, _⟩ => (a0, a1, a2, a3, a4, a5)
 st := fun u26 => mkS 81 [(1, (AV.list 25 u26.1 none)), (2, (AV.ptr 2 0)), (5, (AV.vs 1000005 0 u26.2.1 1)), (8, (qI u26.2.2.1)), (9, (qI u26.2.2.2.1))] [(2, [(AV.list 1 u26.2.2.2.2.1 none)]), (1000005, u26.2.2.2.2.2)] (ZL 26).1.toks 0
 out := fun y => (.exit 4, mkS 81 [(1, (AV.list 25 y.1 none)), (2, (AV.ptr 2 0)), (5, (AV.vs 1000005 0 y.2.1 1)), (8, (qI y.2.2.1))] [(2, [(AV.list 1 y.2.2.2.1 none)]), (1000005, y.2.2.2.2)] (ZL 26).2.toks 0)
 b := fun u26 α kn ke => (match (decide (u26.2.2.2.1 < (u26.1.length : Int))) with | true => (if 0 <= u26.2.2.1 /\ u26.2.2.1 < (u26.2.1 : Int) then (match u26.2.2.2.2.2[((0 + u26.2.2.1.toNat) * 1)]? with | some x23 => (match x23 with | .v (.int q25 n24) => (if q25 = .i64 then (match (decide (n24 < 0)) with | true => (match zfZ N (u26.2.1, u26.2.2.2.1, (u26.2.2.2.2.2.map dat0)) with | some y26 => (match (!y26.1) with | true => (if 0 <= u26.2.2.1 then (match u26.2.2.2.2.1[u26.2.2.1.toNat]? with | some c27 => (match zfU c27 with | some e28 => (match zh3 N e28.1 with | some y29 => (if 0 <= u26.2.2.2.1 then (match u26.1[u26.2.2.2.1.toNat]? with | some c30 => (match ((c30.drop 9).drop 0)[0]? with | some x31 => (match Z2 9 x31 with | some l32 => (match zrG N (y29.2.2.2.2.2.2.2.2.2.2.2.2.2.1, l32) with | some y33 => (match y33 with | true => (if 0 <= u26.2.2.1 /\ u26.2.2.1 < (u26.2.1 : Int) then (if ((0 + u26.2.2.1.toNat) * 1) + 1 <= y26.2.length then (kn (u26.1, u26.2.1, u26.2.2.1, (i64 (u26.2.2.2.1 + 1)), u26.2.2.2.2.1, ((splice y26.2 ((0 + u26.2.2.1.toNat) * 1) [(AV.v (.int .i64 u26.2.2.2.1))]).map dat0))) else none) else none) | false => (kn (u26.1, u26.2.1, u26.2.2.1, (i64 (u26.2.2.2.1 + 1)), u26.2.2.2.2.1, (y26.2.map dat0)))) | none => none) | none => none) | none => none) | none => none) else none) | none => none) | none => none) | none => none) else none) | false => (kn (u26.1, u26.2.1, u26.2.2.1, (i64 (u26.2.2.2.1 + 1)), u26.2.2.2.2.1, (y26.2.map dat0)))) | none => none) | false => (ke (u26.1, u26.2.1, u26.2.2.1, u26.2.2.2.2.1, (u26.2.2.2.2.2.map dat0)))) else none) | _ => none) | none => none) else none) | false => (ke (u26.1, u26.2.1, u26.2.2.1, u26.2.2.2.2.1, (u26.2.2.2.2.2.map dat0))))
abbrev zjl (N : Nat) (x : qL × Nat × Int × Int × qL × qA) : Option ((qL × Nat × Int × qL × qA)) := (zP N).L N x
def Zs (N : Nat) : LSpec where
 X := qL × Nat × Int × qL × qA
 Y := (Nat × qA)
 p := fun s => rdS 81 0 [(1, .lst 25), (2, .ptr 2 0), (5, .vs0 1000005 1), (8, .int .i64)] [(2, .cells [.lst 1]), (1000005, .tt)] s fun ⟨a0, _, a1, a2, _⟩ ⟨⟨a3, _⟩, a4, _⟩ => (a0, a1, a2, a3, a4)
 st := fun u18 => mkS 81 [(1, (AV.list 25 u18.1 none)), (2, (AV.ptr 2 0)), (5, (AV.vs 1000005 0 u18.2.1 1)), (8, (qI u18.2.2.1))] [(2, [(AV.list 1 u18.2.2.2.1 none)]), (1000005, u18.2.2.2.2)] (ZL 18).1.toks 0
 out := fun y => (.exit 2, mkS 81 [(5, (AV.vs 1000005 0 y.1 1))] [(1000005, y.2)] (ZL 18).2.toks 0)
 b := fun u18 α kn ke => (match (decide (u18.2.2.1 < (u18.2.2.2.1.length : Int))) with | true => (match zjl N (u18.1, u18.2.1, u18.2.2.1, 0, u18.2.2.2.1, (u18.2.2.2.2.map dat0)) with | some y35 => (kn (y35.1, y35.2.1, (i64 (y35.2.2.1 + 1)), y35.2.2.2.1, (y35.2.2.2.2.map dat0))) | none => none) | false => (ke (u18.2.1, (u18.2.2.2.2.map dat0))))
abbrev zjc (N : Nat) (x : qL × Nat × Int × qL × qA) : Option ((Nat × qA)) := (Zs N).L N x
def Zr (N : Nat) : LSpec where
 X := Nat × qL × Int × qL × qA
 Y := (Nat × qL × qL × qA)
 p := fun s => rdS 81 0 [(5, .vs0 1000005 1), (1, .lst 25), (2, .ptr 2 0), (6, .int .i64)] [(2, .cells [.lst 1]), (1000005, .tt)] s fun ⟨a0, a1, _, a2, _⟩ ⟨⟨a3, _⟩, a4, _⟩ => (a0, a1, a2, a3, a4)
 st := fun u5 => mkS 81 [(5, (AV.vs 1000005 0 u5.1 1)), (1, (AV.list 25 u5.2.1 none)), (2, (AV.ptr 2 0)), (6, (qI u5.2.2.1))] [(2, [(AV.list 1 u5.2.2.2.1 none)]), (1000005, u5.2.2.2.2)] (ZL 5).1.toks 0
 out := fun y => (.exit 0, mkS 81 [(5, (AV.vs 1000005 0 y.1 1)), (1, (AV.list 25 y.2.1 none)), (2, (AV.ptr 2 0))] [(2, [(AV.list 1 y.2.2.1 none)]), (1000005, y.2.2.2)] (ZL 5).2.toks 0)
 b := fun u5 α kn ke => (match (decide (u5.2.2.1 < (u5.2.2.2.1.length : Int))) with | true => (if 0 <= u5.2.2.1 then (match u5.2.2.2.1[u5.2.2.1.toNat]? with | some c6 => (match zfU c6 with | some e7 => (match zh3 N e7.1 with | some y8 => (match zuo N (u5.2.1, (zpp y8)) with | some y9 => (match zfZ N (u5.1, y9, (u5.2.2.2.2.map dat0)) with | some y10 => (match y10.1 with | true => (if u5.1 * 1 <= y10.2.length /\ (u5.1 + [[(AV.v (.int .i64 (-1)))]].length) * 8 <= zh then (kn ((u5.1 + [[(AV.v (.int .i64 (-1)))]].length), u5.2.1, (i64 (u5.2.2.1 + 1)), u5.2.2.2.1, ((y10.2.take (u5.1 * 1) ++ [[(AV.v (.int .i64 (-1)))]].flatten).map dat0))) else none) | false => (if u5.1 * 1 <= y10.2.length /\ (u5.1 + [[(AV.v (.int .i64 y9))]].length) * 8 <= zh then (kn ((u5.1 + [[(AV.v (.int .i64 y9))]].length), u5.2.1, (i64 (u5.2.2.1 + 1)), u5.2.2.2.1, ((y10.2.take (u5.1 * 1) ++ [[(AV.v (.int .i64 y9))]].flatten).map dat0))) else none)) | none => none) | none => none) | none => none) | none => none) | none => none) else none) | false => (ke (u5.1, u5.2.1, u5.2.2.2.1, (u5.2.2.2.2.map dat0))))
abbrev zpy (N : Nat) (x : Nat × qL × Int × qL × qA) : Option ((Nat × qL × qL × qA)) := (Zr N).L N x
def zav (N : Nat) : FSpec where
 X := qL × qL
 Y := Nat × qA
 ash := [[some 1], [some 25]]
 S := ⟨[[some 1000001]], [], [], [], []⟩
 bm := true
 pat := fun a b => zk a fun v1 c2 => jg v1 fun c3 => zk c3 fun c4 c5 => Z3 1 c4 fun a0 => zQ c5 <| zk c2 fun v6 c7 => Z3 25 v6 fun a1 => zQ c7 <| zQ b <| some (a0, a1)
 args := fun x => [(AV.agg [(AV.list 1 x.1 none)]), (AV.list 25 x.2 none)]
 ret := fun y => ⟨(AV.vs 0 0 y.1 1), [], some y.2, [], [], [], none⟩
 t := fun x α k => (match zpy N (0, x.2, 0, x.1, ([] : List AV)) with | some y11 => (match zjc N (y11.2.1, y11.1, 0, y11.2.2.1, (y11.2.2.2.map dat0)) with | some y36 => (k (y36.1, (y36.2.map dat0))) | none => none) | none => none)
abbrev zl1 (N : Nat) (x : qL × qL) : Option (Nat × qA) := (zav N).d x
def jU (N : Nat) : List (Nat × LSpec) := [(5, Zr N), (18, Zs N), (26, zP N)]
def Js : Code := Tryd.f59.body.getD .skip
theorem zle (N : Nat) : Par (zP N).b := by
 intro x α β kn ke kn' ke' r r' h h1 h2
 revert h
 dsimp only [zP]
 (repeat' (first | (with_reducible refine ze ?_ ?_) | split)) <;> intro h <;> first | exact h1 _ h | exact h2 _ h | cases h
theorem zif (N : Nat) : jh (JT qP [33]) (ziH N) ZL N (jU N) 26 Js (zP N) := fun x α kn ke => by kernel_rfl
theorem zc6 (N : Nat) : ZK qP ZL N (jU N) 26 (zc 26 Js) :=
 zD (zL qP [33]) (zi _) zl ZL N (jU N) 26 Js (l := []) (by kernel_rfl) (by kernel_rfl) an (zP N) rfl (fun s x hc h => by dsimp only [zP] at h; exact zJ hc h (fun _ _ => rfl) rfl rfl rfl) (fun _ => rfl) (zif N) (zle N)
theorem zlQ (N : Nat) : Par (Zs N).b := by
 intro x α β kn ke kn' ke' r r' h h1 h2
 revert h
 dsimp only [Zs]
 (repeat' (first | (with_reducible refine ze ?_ ?_) | split)) <;> intro h <;> first | exact h1 _ h | exact h2 _ h | cases h
theorem zik (N : Nat) : jh (JT qP [33]) (ziH N) ZL N (jU N) 18 Js (Zs N) := fun x α kn ke => by kernel_rfl
theorem zhD (N : Nat) : ZK qP ZL N (jU N) 18 (zc 18 Js) :=
 zD (zL qP [33]) (zi _) zl ZL N (jU N) 18 Js (l := [(26, zc 26 Js)]) (by kernel_rfl) (by kernel_rfl) (al (zc6 N) an) (Zs N) rfl (fun s x hc h => by dsimp only [Zs] at h; exact zJ hc h (fun _ _ => rfl) rfl rfl rfl) (fun _ => rfl) (zik N) (zlQ N)
theorem znu (N : Nat) : Par (Zr N).b := by
 intro x α β kn ke kn' ke' r r' h h1 h2
 revert h
 dsimp only [Zr]
 (repeat' (first | (with_reducible refine ze ?_ ?_) | split)) <;> intro h <;> first | exact h1 _ h | exact h2 _ h | cases h
theorem zkv (N : Nat) : jh (JT qP [33]) (ziH N) ZL N (jU N) 5 Js (Zr N) := fun x α kn ke => by kernel_rfl
theorem zkA (N : Nat) : ZK qP ZL N (jU N) 5 (zc 5 Js) :=
 zD (zL qP [33]) (zi _) zl ZL N (jU N) 5 Js (l := []) (by kernel_rfl) (by kernel_rfl) an (Zr N) rfl (fun s x hc h => by dsimp only [Zr] at h; exact zJ hc h (fun _ _ => rfl) rfl rfl rfl) (fun _ => rfl) (zkv N) (znu N)
theorem zm2 (N : Nat) : Zd (zav N).t := by
 intro x α β k k' r r' h h1
 revert h
 dsimp only [zav]
 (repeat' (first | (with_reducible refine ze ?_ ?_) | split)) <;> intro h <;> first | exact h1 _ h | cases h
theorem zo4 (N : Nat) : Zh (JT qP [33]) (ziH N) ZL (lam N (jU N)) Tryd.f59 (zav N) := fun x => by kernel_rfl
theorem zvH (N : Nat) (a : List AV) (b : qL) (x : (zav N).X) (h : (zav N).pat a b = some x) : a = (zav N).args x /\ b = (zav N).bs x := by
 obtain ⟨v1, c2, rfl, g0⟩ := zb (show zk _ _ = some x from h)
 obtain ⟨c3, rfl, g1⟩ := zR g0; clear g0
 obtain ⟨c4, c5, rfl, g2⟩ := zb g1; clear g1
 obtain ⟨a0, rfl, g3⟩ := zr g2; clear g2
 obtain ⟨rfl, g4⟩ := zg g3; clear g3
 obtain ⟨v6, c7, rfl, g5⟩ := zb g4; clear g4
 obtain ⟨a1, rfl, g6⟩ := zr g5; clear g5
 obtain ⟨rfl, g7⟩ := zg g6; clear g6
 obtain ⟨rfl, g8⟩ := zg g7; clear g7
 clear h
 cases g8
 exact ⟨rfl, rfl⟩
def zB0 (N : Nat) : Ent qP := zA (zL qP [33]) (zi _) zl 59 Tryd.f59 Tryd.func59 rfl ZL (lam N (jU N)) (zm (l := [(5, zc 5 Js), (18, zc 18 Js), (26, zc 26 Js)]) (al (zkA N) (al (zhD N) (al (zc6 N) an))) (by kernel_rfl)) (zav N) (fun _ => ⟨rfl, rfl⟩) (zo4 N) (zvH N) (zm2 N)
def jj : Nat -> Keep × Keep := anF [(18, ⟨[2, 3, 6, 9, 10, 12], [(11, 1)], [3, 6, 9, 40, 43], [(1, 25)], [((6, 0), 1)], [], [], [40, 43], false, some 40, []⟩, ⟨[2, 6, 8, 9, 10], [(11, 1)], [6, 9, 40, 43], [(1, 25), (7, 1)], [((6, 0), 1)], [], [], [40, 43], false, some 40, []⟩), (30, ⟨[2, 3, 6, 9, 10, 12, 13, 14, 15, 16, 68], [(11, 1)], [3, 6, 9, 13, 14, 40, 43], [(1, 25)], [((6, 0), 1)], [], [], [40, 43], true, some 40, []⟩, ⟨[2, 3, 6, 9, 10, 12, 13, 14, 15], [(11, 1)], [3, 6, 9, 13, 14, 40, 43], [(1, 25)], [((6, 0), 1)], [], [], [40, 43], false, some 40, []⟩), (42, ⟨[2, 6, 9, 10, 17], [(11, 1)], [6, 9, 43], [(1, 25)], [((6, 0), 1)], [], [((9, 0), 1)], [43], false, none, []⟩, ⟨[6, 9], [(11, 1)], [6, 9], [], [((6, 0), 1)], [], [((9, 0), 1)], [], false, none, []⟩)] [(100032, ([], [((9, 0), 1)]))]
def zsZ (N : Nat) : GamK := gam (P := qP) [zBv N, zx8 N, zCh N, zxn N, zB0 N, zrm N, zEu N, zB4 N, zzs N, zxi N]
def Zu (N : Nat) : LSpec where
 X := qL × qL × Int × Nat × Int × qL × Nat × qA × qA
 Y := (qL × qL × Nat × qA)
 p := fun s => rdS 155 0 [(11, .tok 1 1280000704), (1, .lst 25), (2, .int .i64), (6, .ptr 6 0), (9, .ptr 9 0), (10, .vs0 43 1), (17, .int .i64)] [(6, .cells [.tok 1 6401572864]), (9, .cells [.vs0 2036864 1]), (43, .tt), (2036864, .tt)] s fun ⟨a0, a1, a2, _, _, a3, a4, _⟩ ⟨⟨a5, _⟩, ⟨a6, _⟩, a7, a8, _⟩ => (a0, a1, a2, a3, a4, a5, a6, a7, a8)
 st := fun u42 => mkS 155 [(11, (AV.list 1 u42.1 (some 1280000704))), (1, (AV.list 25 u42.2.1 none)), (2, (qI u42.2.2.1)), (6, (AV.ptr 6 0)), (9, (AV.ptr 9 0)), (10, (AV.vs 43 0 u42.2.2.2.1 1)), (17, (qI u42.2.2.2.2.1))] [(6, [(AV.list 1 u42.2.2.2.2.2.1 (some 6401572864))]), (9, [(AV.vs 2036864 0 u42.2.2.2.2.2.2.1 1)]), (43, u42.2.2.2.2.2.2.2.1), (2036864, u42.2.2.2.2.2.2.2.2)] (jj 42).1.toks 0
 out := fun y => (.exit 2, mkS 155 [(11, (AV.list 1 y.1 (some 1280000704))), (6, (AV.ptr 6 0)), (9, (AV.ptr 9 0))] [(6, [(AV.list 1 y.2.1 (some 6401572864))]), (9, [(AV.vs 2036864 0 y.2.2.1 1)]), (2036864, y.2.2.2)] (jj 42).2.toks 0)
 b := fun u42 α kn ke => (match (decide (u42.2.2.2.2.1 < (u42.2.1.length : Int))) with | true => (match zfZ N (u42.2.2.2.1, u42.2.2.2.2.1, (u42.2.2.2.2.2.2.2.1.map dat0)) with | some y58 => (match (!y58.1) with | true => (if (u42.1.length + [[(AV.v (.int .i64 ((u42.2.2.2.2.2.2.1 : Nat) : Int)))]].length) * 8 <= zh then (if 0 <= u42.2.2.2.2.1 then (match u42.2.1[u42.2.2.2.2.1.toNat]? with | some c59 => (match zji c59 with | some e60 => (if u42.2.2.2.2.2.2.1 * 1 <= u42.2.2.2.2.2.2.2.2.length /\ (u42.2.2.2.2.2.2.1 + [[(AV.list 29 [(zN (1, u42.2.2.1, (⟨#[]⟩ : ByteArray), 0, e60))] none)]].length) * 24 <= zh then (kn ((u42.1 ++ [[(AV.v (.int .i64 ((u42.2.2.2.2.2.2.1 : Nat) : Int)))]]), u42.2.1, u42.2.2.1, u42.2.2.2.1, (i64 (u42.2.2.2.2.1 + 1)), u42.2.2.2.2.2.1, (u42.2.2.2.2.2.2.1 + [[(AV.list 29 [(zN (1, u42.2.2.1, (⟨#[]⟩ : ByteArray), 0, e60))] none)]].length), (y58.2.map dat0), ((u42.2.2.2.2.2.2.2.2.take (u42.2.2.2.2.2.2.1 * 1) ++ [[(AV.list 29 [(zN (1, u42.2.2.1, (⟨#[]⟩ : ByteArray), 0, e60))] none)]].flatten).map dat0))) else none) | none => none) | none => none) else none) else none) | false => (kn (u42.1, u42.2.1, u42.2.2.1, u42.2.2.2.1, (i64 (u42.2.2.2.2.1 + 1)), u42.2.2.2.2.2.1, u42.2.2.2.2.2.2.1, (y58.2.map dat0), (u42.2.2.2.2.2.2.2.2.map dat0)))) | none => none) | false => (ke (u42.1, u42.2.2.2.2.2.1, u42.2.2.2.2.2.2.1, (u42.2.2.2.2.2.2.2.2.map dat0))))
abbrev zpJ (N : Nat) (x : qL × qL × Int × Nat × Int × qL × Nat × qA × qA) : Option ((qL × qL × Nat × qA)) := (Zu N).L N x
def jD (N : Nat) : LSpec where
 X := qL × qL × Int × Nat × Int × Bool × Int × Bool × qL × qL × Nat × RT7 × RT7 × qA × qA × Nat × Nat
 Y := (qL × qL × Int × Nat × Int × Bool × qL × qL × Nat × RT7 × RT7 × qA × qA × Nat × Nat)
 p := fun s => rdF 155 0 40 [(11, .tok 1 1280000704), (1, .lst 25), (2, .int .i64), (3, .ptr 3 0), (6, .ptr 6 0), (9, .ptr 9 0), (10, .vs0 43 1), (12, .int .i64), (13, .ptr 13 0), (14, .ptr 14 0), (15, .bool), (16, .int .i64), (68, .bool)] [(3, .cells [.lst 1]), (6, .cells [.tok 1 6401572864]), (9, .cells [.vs0 40 1]), (13, .row RK7), (14, .row RK7), (40, .tt), (43, .tt)] s fun ⟨a0, a1, a2, _, _, _, a3, a4, _, _, a5, a6, a7, _⟩ ⟨⟨a8, _⟩, ⟨a9, _⟩, ⟨a10, _⟩, a11, a12, a13, a14, _⟩ a15 a16 => (a0, a1, a2, a3, a4, a5, a6, a7, a8, a9, a10, a11, a12, a13, a14, a15, a16)
 st := fun u30 => mkF 155 [(11, (AV.list 1 u30.1 (some 1280000704))), (1, (AV.list 25 u30.2.1 none)), (2, (qI u30.2.2.1)), (3, (AV.ptr 3 0)), (6, (AV.ptr 6 0)), (9, (AV.ptr 9 0)), (10, (AV.vs 43 0 u30.2.2.2.1 1)), (12, (qI u30.2.2.2.2.1)), (13, (AV.ptr 13 0)), (14, (AV.ptr 14 0)), (15, (AV.v (.bool u30.2.2.2.2.2.1))), (16, (qI u30.2.2.2.2.2.2.1)), (68, (AV.v (.bool u30.2.2.2.2.2.2.2.1)))] [(3, [(AV.list 1 u30.2.2.2.2.2.2.2.2.1 none)]), (6, [(AV.list 1 u30.2.2.2.2.2.2.2.2.2.1 (some 6401572864))]), (9, [(AV.vs 40 0 u30.2.2.2.2.2.2.2.2.2.2.1 1)]), (13, (zN u30.2.2.2.2.2.2.2.2.2.2.2.1)), (14, (zN u30.2.2.2.2.2.2.2.2.2.2.2.2.1)), (40, u30.2.2.2.2.2.2.2.2.2.2.2.2.2.1), (43, u30.2.2.2.2.2.2.2.2.2.2.2.2.2.2.1)] (jj 30).1.toks 0 (some (40, u30.2.2.2.2.2.2.2.2.2.2.2.2.2.2.2.1, u30.2.2.2.2.2.2.2.2.2.2.2.2.2.2.2.2))
 out := fun y => (.normal, mkF 155 [(11, (AV.list 1 y.1 (some 1280000704))), (1, (AV.list 25 y.2.1 none)), (2, (qI y.2.2.1)), (3, (AV.ptr 3 0)), (6, (AV.ptr 6 0)), (9, (AV.ptr 9 0)), (10, (AV.vs 43 0 y.2.2.2.1 1)), (12, (qI y.2.2.2.2.1)), (13, (AV.ptr 13 0)), (14, (AV.ptr 14 0)), (15, (AV.v (.bool y.2.2.2.2.2.1)))] [(3, [(AV.list 1 y.2.2.2.2.2.2.1 none)]), (6, [(AV.list 1 y.2.2.2.2.2.2.2.1 (some 6401572864))]), (9, [(AV.vs 40 0 y.2.2.2.2.2.2.2.2.1 1)]), (13, (zN y.2.2.2.2.2.2.2.2.2.1)), (14, (zN y.2.2.2.2.2.2.2.2.2.2.1)), (40, y.2.2.2.2.2.2.2.2.2.2.2.1), (43, y.2.2.2.2.2.2.2.2.2.2.2.2.1)] (jj 30).2.toks 0 (some (40, y.2.2.2.2.2.2.2.2.2.2.2.2.2.1, y.2.2.2.2.2.2.2.2.2.2.2.2.2.2)))
 b := fun u30 α kn ke => (match u30.2.2.2.2.2.2.2.1 with | true => (if 0 <= u30.2.2.2.2.2.2.1 then (match u30.2.1[u30.2.2.2.2.2.2.1.toNat]? with | some c24 => (match zji c24 with | some e25 => (match zyv N u30.2.2.2.2.2.2.2.2.2.2.2.1 with | some y26 => (match y26 with | true => (if 0 <= u30.2.2.2.2.2.2.1 then (match u30.2.1[u30.2.2.2.2.2.2.1.toNat]? with | some c27 => (match zji c27 with | some e28 => (match zdQ N ((zx u30.2.2.2.2.2.2.2.2.2.2.2.1), e28) with | some y29 => (ke (u30.1, u30.2.1, u30.2.2.1, u30.2.2.2.1, u30.2.2.2.2.1, y29, u30.2.2.2.2.2.2.2.2.1, u30.2.2.2.2.2.2.2.2.2.1, u30.2.2.2.2.2.2.2.2.2.2.1, u30.2.2.2.2.2.2.2.2.2.2.2.1, (1, u30.2.2.2.2.2.2.2.2.2.2.2.2.1.2.1, u30.2.2.2.2.2.2.2.2.2.2.2.2.1.2.2.1, u30.2.2.2.2.2.2.2.2.2.2.2.2.1.2.2.2.1, e25), (u30.2.2.2.2.2.2.2.2.2.2.2.2.2.1.map datF), (u30.2.2.2.2.2.2.2.2.2.2.2.2.2.2.1.map dat0), u30.2.2.2.2.2.2.2.2.2.2.2.2.2.2.2)) | none => none) | none => none) | none => none) else none) | false => (ke (u30.1, u30.2.1, u30.2.2.1, u30.2.2.2.1, u30.2.2.2.2.1, false, u30.2.2.2.2.2.2.2.2.1, u30.2.2.2.2.2.2.2.2.2.1, u30.2.2.2.2.2.2.2.2.2.2.1, u30.2.2.2.2.2.2.2.2.2.2.2.1, (1, u30.2.2.2.2.2.2.2.2.2.2.2.2.1.2.1, u30.2.2.2.2.2.2.2.2.2.2.2.2.1.2.2.1, u30.2.2.2.2.2.2.2.2.2.2.2.2.1.2.2.2.1, e25), (u30.2.2.2.2.2.2.2.2.2.2.2.2.2.1.map datF), (u30.2.2.2.2.2.2.2.2.2.2.2.2.2.2.1.map dat0), u30.2.2.2.2.2.2.2.2.2.2.2.2.2.2.2))) | none => none) | none => none) | none => none) else none) | false => (ke (u30.1, u30.2.1, u30.2.2.1, u30.2.2.2.1, u30.2.2.2.2.1, u30.2.2.2.2.2.1, u30.2.2.2.2.2.2.2.2.1, u30.2.2.2.2.2.2.2.2.2.1, u30.2.2.2.2.2.2.2.2.2.2.1, u30.2.2.2.2.2.2.2.2.2.2.2.1, u30.2.2.2.2.2.2.2.2.2.2.2.2.1, (u30.2.2.2.2.2.2.2.2.2.2.2.2.2.1.map datF), (u30.2.2.2.2.2.2.2.2.2.2.2.2.2.2.1.map dat0), u30.2.2.2.2.2.2.2.2.2.2.2.2.2.2.2)))
abbrev zdN (N : Nat) (x : qL × qL × Int × Nat × Int × Bool × Int × Bool × qL × qL × Nat × RT7 × RT7 × qA × qA × Nat × Nat) : Option ((qL × qL × Int × Nat × Int × Bool × qL × qL × Nat × RT7 × RT7 × qA × qA × Nat × Nat)) := (jD N).L N x
def Zv (N : Nat) : LSpec where
 X := qL × qL × Int × Nat × Int × qL × qL × Nat × qA × qA × Nat × Nat
 Y := (qL × qL × qL × Int × Int × Nat × qL × Nat × qA × qA × Nat × Nat) ⊕ (qL × qL × Int × Nat × qL × Nat × qA × qA × Nat × Nat)
 p := fun s => rdF 155 0 40 [(11, .tok 1 1280000704), (1, .lst 25), (2, .int .i64), (3, .ptr 3 0), (6, .ptr 6 0), (9, .ptr 9 0), (10, .vs0 43 1), (12, .int .i64)] [(3, .cells [.lst 1]), (6, .cells [.tok 1 6401572864]), (9, .cells [.vs0 40 1]), (40, .tt), (43, .tt)] s fun ⟨a0, a1, a2, _, _, _, a3, a4, _⟩ ⟨⟨a5, _⟩, ⟨a6, _⟩, ⟨a7, _⟩, a8, a9, _⟩ a10 a11 => (a0, a1, a2, a3, a4, a5, a6, a7, a8, a9, a10, a11)
 st := fun u18 => mkF 155 [(11, (AV.list 1 u18.1 (some 1280000704))), (1, (AV.list 25 u18.2.1 none)), (2, (qI u18.2.2.1)), (3, (AV.ptr 3 0)), (6, (AV.ptr 6 0)), (9, (AV.ptr 9 0)), (10, (AV.vs 43 0 u18.2.2.2.1 1)), (12, (qI u18.2.2.2.2.1))] [(3, [(AV.list 1 u18.2.2.2.2.2.1 none)]), (6, [(AV.list 1 u18.2.2.2.2.2.2.1 (some 6401572864))]), (9, [(AV.vs 40 0 u18.2.2.2.2.2.2.2.1 1)]), (40, u18.2.2.2.2.2.2.2.2.1), (43, u18.2.2.2.2.2.2.2.2.2.1)] (jj 18).1.toks 0 (some (40, u18.2.2.2.2.2.2.2.2.2.2.1, u18.2.2.2.2.2.2.2.2.2.2.2))
 out := fun y => match y with
  | .inl y => (.ret, mkF 155 [(11, (AV.list 1 y.1 (some 1280000704))), (1, (AV.list 25 y.2.1 none)), (7, (AV.list 1 y.2.2.1 none)), (2, (qI y.2.2.2.1)), (6, (AV.ptr 6 0)), (8, (qI y.2.2.2.2.1)), (9, (AV.ptr 9 0)), (10, (AV.vs 43 0 y.2.2.2.2.2.1 1))] [(6, [(AV.list 1 y.2.2.2.2.2.2.1 (some 6401572864))]), (9, [(AV.vs 40 0 y.2.2.2.2.2.2.2.1 1)]), (40, y.2.2.2.2.2.2.2.2.1), (43, y.2.2.2.2.2.2.2.2.2.1)] (jj 18).2.toks 0 (some (40, y.2.2.2.2.2.2.2.2.2.2.1, y.2.2.2.2.2.2.2.2.2.2.2)))
  | .inr y => (.exit 0, mkF 155 [(11, (AV.list 1 y.1 (some 1280000704))), (1, (AV.list 25 y.2.1 none)), (2, (qI y.2.2.1)), (6, (AV.ptr 6 0)), (9, (AV.ptr 9 0)), (10, (AV.vs 43 0 y.2.2.2.1 1))] [(6, [(AV.list 1 y.2.2.2.2.1 (some 6401572864))]), (9, [(AV.vs 40 0 y.2.2.2.2.2.1 1)]), (40, y.2.2.2.2.2.2.1), (43, y.2.2.2.2.2.2.2.1)] (jj 18).2.toks 0 (some (40, y.2.2.2.2.2.2.2.2.1, y.2.2.2.2.2.2.2.2.2)))
 b := fun u18 α kn ke => (match (decide (u18.2.2.2.2.1 < ((u18.2.2.2.1 : Nat) : Int))) with | true => (if 0 <= u18.2.2.2.2.1 then (match u18.2.2.2.2.2.1[u18.2.2.2.2.1.toNat]? with | some c38 => (match zfU c38 with | some e39 => (match zh3 N e39.1 with | some y40 => (if 0 <= u18.2.2.2.2.1 /\ u18.2.2.2.2.1 < (u18.2.2.2.1 : Int) then (match u18.2.2.2.2.2.2.2.2.2.1[((0 + u18.2.2.2.2.1.toNat) * 1)]? with | some x41 => (match x41 with | .v (.int q43 n42) => (if q43 = .i64 then (match zdN N (u18.1, u18.2.1, u18.2.2.1, u18.2.2.2.1, u18.2.2.2.2.1, (y40.1 == 2), n42, (decide (n42 >= 0)), u18.2.2.2.2.2.1, u18.2.2.2.2.2.2.1, u18.2.2.2.2.2.2.2.1, y40, (2, u18.2.2.1, (⟨#[]⟩ : ByteArray), 0, y40.2.2.2.2), (u18.2.2.2.2.2.2.2.2.1.map datF), (u18.2.2.2.2.2.2.2.2.2.1.map dat0), u18.2.2.2.2.2.2.2.2.2.2) with | some y44 => (match zhA N y44.2.2.2.2.2.2.2.2.2.1 with | some y45 => (match y45 with | true => (match (!y44.2.2.2.2.2.1) with | true => (if 0 <= y44.2.2.2.2.1 /\ y44.2.2.2.2.1 < (y44.2.2.2.2.2.2.2.2.1 : Int) then (match y44.2.2.2.2.2.2.2.2.2.2.2.1[(((0 + y44.2.2.2.2.1.toNat) * 1) + 0)]? with | some c46 => (match c46 with | .list n47 l48 (some q49) => (if n47 = 29 /\ q49 = TOB + (((0 + y44.2.2.2.2.1.toNat) * 1) + 0) /\ y44.2.2.2.2.2.2.2.2.2.2.2.2.2.1 <= (((0 + y44.2.2.2.2.1.toNat) * 1) + 0) /\ (((0 + y44.2.2.2.2.1.toNat) * 1) + 0) < y44.2.2.2.2.2.2.2.2.2.2.2.2.2.2 then (if (l48.length + [(zN y44.2.2.2.2.2.2.2.2.2.2.1)].length) * 288 <= zh then (if 0 <= y44.2.2.2.2.1 /\ y44.2.2.2.2.1 < (y44.2.2.2.2.2.2.2.2.1 : Int) then (if (((0 + y44.2.2.2.2.1.toNat) * 1) + 0) + 1 <= y44.2.2.2.2.2.2.2.2.2.2.2.1.length then (if (y44.1.length + [[(AV.v (.int .i64 y44.2.2.2.2.1))]].length) * 8 <= zh then (if 0 <= y44.2.2.2.2.1 /\ y44.2.2.2.2.1 < (y44.2.2.2.2.2.2.2.2.1 : Int) then (match (splice y44.2.2.2.2.2.2.2.2.2.2.2.1 (((0 + y44.2.2.2.2.1.toNat) * 1) + 0) [(AV.list 29 (l48 ++ [(zN y44.2.2.2.2.2.2.2.2.2.2.1)]) (some 6592))])[(((0 + y44.2.2.2.2.1.toNat) * 1) + 0)]? with | some x50 => (match Z2 29 x50 with | some l51 => (match (decide ((l51.length : Int) > 100)) with | true => (ke (.inl ((y44.1 ++ [[(AV.v (.int .i64 y44.2.2.2.2.1))]]), y44.2.1, ([] : qL), y44.2.2.1, 8, y44.2.2.2.1, ([] : qL), y44.2.2.2.2.2.2.2.2.1, ((splice y44.2.2.2.2.2.2.2.2.2.2.2.1 (((0 + y44.2.2.2.2.1.toNat) * 1) + 0) [(AV.list 29 (l48 ++ [(zN y44.2.2.2.2.2.2.2.2.2.2.1)]) (some 6592))]).map datF), (y44.2.2.2.2.2.2.2.2.2.2.2.2.1.map dat0), ((((0 + y44.2.2.2.2.1.toNat) * 1) + 0) + 1), y44.2.2.2.2.2.2.2.2.2.2.2.2.2.2))) | false => (kn ((y44.1 ++ [[(AV.v (.int .i64 y44.2.2.2.2.1))]]), y44.2.1, y44.2.2.1, y44.2.2.2.1, (i64 (y44.2.2.2.2.1 + 1)), y44.2.2.2.2.2.2.1, y44.2.2.2.2.2.2.2.1, y44.2.2.2.2.2.2.2.2.1, ((splice y44.2.2.2.2.2.2.2.2.2.2.2.1 (((0 + y44.2.2.2.2.1.toNat) * 1) + 0) [(AV.list 29 (l48 ++ [(zN y44.2.2.2.2.2.2.2.2.2.2.1)]) (some 6592))]).map datF), (y44.2.2.2.2.2.2.2.2.2.2.2.2.1.map dat0), ((((0 + y44.2.2.2.2.1.toNat) * 1) + 0) + 1), y44.2.2.2.2.2.2.2.2.2.2.2.2.2.2))) | none => none) | none => none) else none) else none) else none) else none) else none) else none) | _ => none) | none => none) else none) | false => (kn (y44.1, y44.2.1, y44.2.2.1, y44.2.2.2.1, (i64 (y44.2.2.2.2.1 + 1)), y44.2.2.2.2.2.2.1, y44.2.2.2.2.2.2.2.1, y44.2.2.2.2.2.2.2.2.1, (y44.2.2.2.2.2.2.2.2.2.2.2.1.map datF), (y44.2.2.2.2.2.2.2.2.2.2.2.2.1.map dat0), y44.2.2.2.2.2.2.2.2.2.2.2.2.2))) | false => (kn (y44.1, y44.2.1, y44.2.2.1, y44.2.2.2.1, (i64 (y44.2.2.2.2.1 + 1)), y44.2.2.2.2.2.2.1, y44.2.2.2.2.2.2.2.1, y44.2.2.2.2.2.2.2.2.1, (y44.2.2.2.2.2.2.2.2.2.2.2.1.map datF), (y44.2.2.2.2.2.2.2.2.2.2.2.2.1.map dat0), y44.2.2.2.2.2.2.2.2.2.2.2.2.2))) | none => none) | none => none) else none) | _ => none) | none => none) else none) | none => none) | none => none) | none => none) else none) | false => (ke (.inr (u18.1, u18.2.1, u18.2.2.1, u18.2.2.2.1, u18.2.2.2.2.2.2.1, u18.2.2.2.2.2.2.2.1, (u18.2.2.2.2.2.2.2.2.1.map datF), (u18.2.2.2.2.2.2.2.2.2.1.map dat0), u18.2.2.2.2.2.2.2.2.2.2))))
abbrev zp8 (N : Nat) (x : qL × qL × Int × Nat × Int × qL × qL × Nat × qA × qA × Nat × Nat) : Option ((qL × qL × qL × Int × Int × Nat × qL × Nat × qA × qA × Nat × Nat) ⊕ (qL × qL × Int × Nat × qL × Nat × qA × qA × Nat × Nat)) := (Zv N).L N x
def zd3 (N : Nat) : FSpec where
 X := qL × qL × Int
 Y := qL × qL × Int
 ash := [[some 1], [some 25], [none]]
 S := ⟨[[some 1], [some 1], [none]], [], [], [], []⟩
 pat := fun a b => zk a fun v1 c2 => jg v1 fun c3 => zk c3 fun c4 c5 => Z3 1 c4 fun a0 => zQ c5 <| zk c2 fun v6 c7 => Z3 25 v6 fun a1 => zk c7 fun v8 c9 => jO .i64 v8 fun a2 => zQ c9 <| zQ b <| some (a0, a1, a2)
 args := fun x => [(AV.agg [(AV.list 1 x.1 none)]), (AV.list 25 x.2.1 none), (AV.v (.int .i64 x.2.2))]
 ret := fun y => ⟨(AV.tup [(AV.agg [(AV.list 1 y.1 none)]), (AV.list 1 y.2.1 none), (AV.v (.int .i64 y.2.2))]), [], none, [], [], [], none⟩
 t := fun x α k => (match zsY N x.1 with | some y1 => (match (!y1) with | true => (k (([] : qL), ([] : qL), 1)) | false => (match zcF N x.2.1 with | some y2 => (match (!y2) with | true => (k (([] : qL), ([] : qL), 1)) | false => (match (decide (x.2.2 < 0)) with | true => (k (([] : qL), ([] : qL), 2)) | false => (match (decide (x.2.2 > 18014398509481984)) with | true => (k (([] : qL), ([] : qL), 2)) | false => (match zvI N (x.1, x.2.2) with | some y3 => (match (!y3) with | true => (k (([] : qL), ([] : qL), 9)) | false => (match zgi N x.1 with | some y4 => (match zl1 N (x.1, x.2.1) with | some y5 => (match zp8 N (([] : qL), x.2.1, x.2.2, y5.1, 0, x.1, ([] : qL), y4.1, ((y4.2.1.map (datJ y4.2.2.1 y4.2.2.2)).map datF), ((y5.2.map dat0).map dat0), y4.2.2) with | some y52 => (match y52 with | .inl z53 => (k (z53.2.2.2.2.2.2.1, z53.2.2.1, z53.2.2.2.2.1)) | .inr z54 => (match zpJ N (z54.1, z54.2.1, z54.2.2.1, z54.2.2.2.1, 0, z54.2.2.2.2.1, z54.2.2.2.2.2.1, (z54.2.2.2.2.2.2.2.1.map dat0), (z54.2.2.2.2.2.2.1.map dat0)) with | some y61 => (match (decide (((y61.2.2.1 : Nat) : Int) > 500)) with | true => (k (([] : qL), ([] : qL), 8)) | false => (if y61.2.2.1 * 1 <= y61.2.2.2.length then (k ((zK (y61.2.2.2.take (y61.2.2.1 * 1)) 1 y61.2.2.1), y61.1, 0)) else none)) | none => none)) | none => none) | none => none) | none => none)) | none => none)))) | none => none)) | none => none)
abbrev zsh (N : Nat) (x : qL × qL × Int) : Option (qL × qL × Int) := (zd3 N).d x
def J6 (N : Nat) : List (Nat × LSpec) := [(18, Zv N), (30, jD N), (42, Zu N)]
def zbw : Code := Tryd.f31.body.getD .skip
theorem zoK (N : Nat) : Par (Zu N).b := by
 intro x α β kn ke kn' ke' r r' h h1 h2
 revert h
 dsimp only [Zu]
 (repeat' (first | (with_reducible refine ze ?_ ?_) | split)) <;> intro h <;> first | exact h1 _ h | exact h2 _ h | cases h
theorem zlB (N : Nat) : jh (JT qP [40, 43, 100, 146]) (zsZ N) jj N (J6 N) 42 zbw (Zu N) := fun x α kn ke => by kernel_rfl
theorem zkO (N : Nat) : ZK qP jj N (J6 N) 42 (zc 42 zbw) :=
 zD (zL qP [40, 43, 100, 146]) (zi _) zl jj N (J6 N) 42 zbw (l := []) (by kernel_rfl) (by kernel_rfl) an (Zu N) rfl (fun s x hc h => by dsimp only [Zu] at h; exact zJ hc h (fun _ _ => rfl) rfl rfl rfl) (fun _ => rfl) (zlB N) (zoK N)
theorem zm7 (N : Nat) : Par (jD N).b := by
 intro x α β kn ke kn' ke' r r' h h1 h2
 revert h
 dsimp only [jD]
 (repeat' (first | (with_reducible refine ze ?_ ?_) | split)) <;> intro h <;> first | exact h1 _ h | exact h2 _ h | cases h
theorem zjT (N : Nat) : zlV (JT qP [40, 43, 100, 146]) (zsZ N) jj N (J6 N) 30 zbw (jD N) := fun x α kn ke => by kernel_rfl
theorem zen (N : Nat) : ZK qP jj N (J6 N) 30 (zc 30 zbw) :=
 j6 (zL qP [40, 43, 100, 146]) (zi _) zl jj N (J6 N) 30 zbw (l := []) (by kernel_rfl) an (jD N) rfl (fun s x hc h => by dsimp only [jD] at h; exact za5 hc h (fun _ _ _ _ => rfl) rfl rfl) (zjT N) (zm7 N)
theorem zpt (N : Nat) : Par (Zv N).b := by
 intro x α β kn ke kn' ke' r r' h h1 h2
 revert h
 dsimp only [Zv]
 (repeat' (first | (with_reducible refine ze ?_ ?_) | split)) <;> intro h <;> first | exact h1 _ h | exact h2 _ h | cases h
theorem zjN (N : Nat) : jh (JT qP [40, 43, 100, 146]) (zsZ N) jj N (J6 N) 18 zbw (Zv N) := fun x α kn ke => by kernel_rfl
theorem zka (N : Nat) : ZK qP jj N (J6 N) 18 (zc 18 zbw) :=
 zD (zL qP [40, 43, 100, 146]) (zi _) zl jj N (J6 N) 18 zbw (l := [(30, zc 30 zbw)]) (by kernel_rfl) (by kernel_rfl) (al (zen N) an) (Zv N) rfl (fun s x hc h => by dsimp only [Zv] at h; exact za5 hc h (fun _ _ _ _ => rfl) rfl rfl) (fun _ => rfl) (zjN N) (zpt N)
theorem zuN (N : Nat) : Zd (zd3 N).t := by
 intro x α β k k' r r' h h1
 revert h
 dsimp only [zd3]
 (repeat' (first | (with_reducible refine ze ?_ ?_) | split)) <;> intro h <;> first | exact h1 _ h | cases h
theorem zro (N : Nat) : Zh (JT qP [40, 43, 100, 146]) (zsZ N) jj (lam N (J6 N)) Tryd.f31 (zd3 N) := fun x => by kernel_rfl
theorem zzk (N : Nat) (a : List AV) (b : qL) (x : (zd3 N).X) (h : (zd3 N).pat a b = some x) : a = (zd3 N).args x /\ b = (zd3 N).bs x := by
 obtain ⟨v1, c2, rfl, g0⟩ := zb (show zk _ _ = some x from h)
 obtain ⟨c3, rfl, g1⟩ := zR g0; clear g0
 obtain ⟨c4, c5, rfl, g2⟩ := zb g1; clear g1
 obtain ⟨a0, rfl, g3⟩ := zr g2; clear g2
 obtain ⟨rfl, g4⟩ := zg g3; clear g3
 obtain ⟨v6, c7, rfl, g5⟩ := zb g4; clear g4
 obtain ⟨a1, rfl, g6⟩ := zr g5; clear g5
 obtain ⟨v8, c9, rfl, g7⟩ := zb g6; clear g6
 obtain ⟨a2, rfl, g8⟩ := zC g7; clear g7
 obtain ⟨rfl, g9⟩ := zg g8; clear g8
 obtain ⟨rfl, g10⟩ := zg g9; clear g9
 clear h
 cases g10
 exact ⟨rfl, rfl⟩
def zDF (N : Nat) : Ent qP := zA (zL qP [40, 43, 100, 146]) (zi _) zl 31 Tryd.f31 Tryd.func31 rfl jj (lam N (J6 N)) (zm (l := [(18, zc 18 zbw), (30, zc 30 zbw), (42, zc 42 zbw)]) (al (zka N) (al (zen N) (al (zkO N) an))) (by kernel_rfl)) (zd3 N) (fun _ => ⟨rfl, rfl⟩) (zro N) (zzk N) (zuN N)
end
end Go.Proofs.YthdgnfcbehcplaaDoor
end
section
namespace Go.Proofs.YthdgnfcbehcplaaDoor
noncomputable section
open Go.RowKit
set_option maxRecDepth 4000
set_option maxHeartbeats 4000000
def zxh : Nat -> Keep × Keep := anL []
def zEz (N : Nat) : GamK := gam (P := qP) [zAm N]
def zkg (N : Nat) : FSpec where
 X := RT0
 Y := Bool
 ash := [[none, none, none, none, none, none, none, none, none, some 9, none, none, none, none, none, none, none, none, none, none, none, none, none, none, none]]
 S := ⟨[[none]], [], [], [], []⟩
 pat := fun a b => rdA [.agg RK0] [] a b fun ⟨a0, _⟩ _ => a0
 args := fun x => [(AV.agg (zB x))]
 ret := fun y => ⟨(AV.v (.bool y)), [], none, [], [], [], none⟩
 t := fun x α k => (match ze7 N ([(zB x)]) with | some y1 => (k y1) | none => none)
abbrev zld (N : Nat) (x : RT0) : Option (Bool) := (zkg N).d x
theorem zr6 (N : Nat) : Zd (zkg N).t := by
 intro x α β k k' r r' h h1
 revert h
 dsimp only [zkg]
 (repeat' (first | (with_reducible refine ze ?_ ?_) | split)) <;> intro h <;> first | exact h1 _ h | cases h
theorem ztv (N : Nat) : Zh (zn qP) (zEz N) zxh (lam N []) Tryd.f72 (zkg N) := fun x => by kernel_rfl
def zA8 (N : Nat) : Ent qP := zA (zd qP) (zi _) zl 72 Tryd.f72 Tryd.func72 rfl zxh (lam N []) (zm (l := []) an (by kernel_rfl)) (zkg N) (fun _ => ⟨rfl, rfl⟩) (ztv N) (fun _ _ _ h => zw h (fun _ _ => rfl) (fun _ _ => rfl)) (zr6 N)
def zbC : Nat -> Keep × Keep := anL [(4, qK [0, 5, 6] [] [], qK [0, 2] [] [])]
def zAY (N : Nat) : GamK := gam (P := qP) []
def zda (N : Nat) : LSpec where
 X := ByteArray × Int × Int
 Y := (ByteArray × Bool) ⊕ (ByteArray)
 p := fun s => rdS 28 0 [(0, .str), (5, .int .i64), (6, .int .i64)] [] s fun ⟨a0, a1, a2, _⟩ _ => (a0, a1, a2)
 st := fun u4 => mkS 28 [(0, (AV.v (.string u4.1))), (5, (qI u4.2.1)), (6, (qI u4.2.2))] [] (zbC 4).1.toks 0
 out := fun y => match y with
  | .inl y => (.ret, mkS 28 [(0, (AV.v (.string y.1))), (2, (AV.v (.bool y.2)))] [] (zbC 4).2.toks 0)
  | .inr y => (.exit 0, mkS 28 [(0, (AV.v (.string y)))] [] (zbC 4).2.toks 0)
 b := fun u4 α kn ke => (match (decide (u4.2.2 < u4.2.1)) with | true => (if 0 <= u4.2.2 then (match u4.1[u4.2.2.toNat]? with | some c1 => (match (decide ((c1.toNat : Int) < 97)) with | true => (ke (.inl (u4.1, false))) | false => (if 0 <= u4.2.2 then (match u4.1[u4.2.2.toNat]? with | some c2 => (match (decide ((c2.toNat : Int) > 122)) with | true => (ke (.inl (u4.1, false))) | false => (kn (u4.1, u4.2.1, (i64 (u4.2.2 + 1))))) | none => none) else none)) | none => none) else none) | false => (ke (.inr u4.1)))
abbrev zBb (N : Nat) (x : ByteArray × Int × Int) : Option ((ByteArray × Bool) ⊕ (ByteArray)) := (zda N).L N x
def zqa (N : Nat) : FSpec where
 X := ByteArray
 Y := Bool
 ash := [[none]]
 S := ⟨[[none]], [], [], [], []⟩
 pat := fun a b => rdA [.str] [] a b fun ⟨a0, _⟩ _ => a0
 args := fun x => [(AV.v (.string x))]
 ret := fun y => ⟨(AV.v (.bool y)), [], none, [], [], [], none⟩
 t := fun x α k => (match zBb N (x, (x.size : Int), 0) with | some y3 => (match y3 with | .inl z4 => (k z4.2) | .inr z5 => (match (decide ((z5.size : Int) >= 1)) with | true => (k (decide ((z5.size : Int) <= 16))) | false => (k false))) | none => none)
abbrev zrr (N : Nat) (x : ByteArray) : Option (Bool) := (zqa N).d x
def zgb (N : Nat) : List (Nat × LSpec) := [(4, zda N)]
def zvM : Code := Tryd.f73.body.getD .skip
theorem zrp (N : Nat) : Par (zda N).b := by
 intro x α β kn ke kn' ke' r r' h h1 h2
 revert h
 dsimp only [zda]
 (repeat' (first | (with_reducible refine ze ?_ ?_) | split)) <;> intro h <;> first | exact h1 _ h | exact h2 _ h | cases h
theorem zpm (N : Nat) : jh (zn qP) (zAY N) zbC N (zgb N) 4 zvM (zda N) := fun x α kn ke => by kernel_rfl
theorem zqs (N : Nat) : ZK qP zbC N (zgb N) 4 (zc 4 zvM) :=
 zD (zd qP) (zi _) zl zbC N (zgb N) 4 zvM (l := []) (by kernel_rfl) (by kernel_rfl) an (zda N) rfl (fun s x hc h => by dsimp only [zda] at h; exact zJ hc h (fun _ _ => rfl) rfl rfl rfl) (fun _ => rfl) (zpm N) (zrp N)
theorem zrx (N : Nat) : Zd (zqa N).t := by
 intro x α β k k' r r' h h1
 revert h
 dsimp only [zqa]
 (repeat' (first | (with_reducible refine ze ?_ ?_) | split)) <;> intro h <;> first | exact h1 _ h | cases h
theorem zr5 (N : Nat) : Zh (zn qP) (zAY N) zbC (lam N (zgb N)) Tryd.f73 (zqa N) := fun x => by kernel_rfl
def zz8 (N : Nat) : Ent qP := zA (zd qP) (zi _) zl 73 Tryd.f73 Tryd.func73 rfl zbC (lam N (zgb N)) (zm (l := [(4, zc 4 zvM)]) (al (zqs N) an) (by kernel_rfl)) (zqa N) (fun _ => ⟨rfl, rfl⟩) (zr5 N) (fun _ _ _ h => zw h (fun _ _ => rfl) (fun _ _ => rfl)) (zrx N)
def zxy : Nat -> Keep × Keep := anL []
def zDJ (N : Nat) : GamK := gam (P := qP) [zA8 N, zz8 N]
def zli (N : Nat) : FSpec where
 X := RT7 × Int × Int
 Y := Bool
 ash := [[none, none, none, none, none, none, none, none, none, none, none, none, none, some 9, none, none, none, none, none, none, none, none, none, none, none, none, none, none, none], [none], [none]]
 S := ⟨[[none]], [], [], [], []⟩
 pat := fun a b => rdA [.agg RK7, .int .i64, .int .i64] [] a b fun ⟨a0, a1, a2, _⟩ _ => (a0, a1, a2)
 args := fun x => [(AV.agg (zN x.1)), (AV.v (.int .i64 x.2.1)), (AV.v (.int .i64 x.2.2))]
 ret := fun y => ⟨(AV.v (.bool y)), [], none, [], [], [], none⟩
 t := fun x α k => (match (decide (x.1.1 < 1)) with | true => (k false) | false => (match (decide (x.1.1 > 6)) with | true => (k false) | false => (match (decide (x.1.2.1 < 0)) with | true => (k false) | false => (match (decide (x.1.2.1 > 18014398509481984)) with | true => (k false) | false => (match zld N (zx x.1) with | some y1 => (match (!y1) with | true => (k false) | false => (if 0 <= x.1.1 /\ x.1.1 < 7 then (match ((gtab3.map AV.v).drop (x.1.1.toNat * 1))[0]? with | some x2 => (match x2 with | .v (.bool b3) => (match b3 with | true => (match (!(x.1.2.2.1.toList == (⟨#[]⟩ : ByteArray).toList)) with | true => (k false) | false => (if 0 <= x.1.1 /\ x.1.1 < 7 then (match ((gtab3.map AV.v).drop (x.1.1.toNat * 1))[0]? with | some x4 => (match x4 with | .v (.bool b5) => (match (!b5) with | true => (match zrr N x.1.2.2.1 with | some y6 => (match (!y6) with | true => (k false) | false => (match (x.1.1 == 5) with | true => (match (decide (x.1.2.2.2.1 >= 0)) with | true => (match (decide (x.1.2.2.2.1 < x.2.2)) with | true => (k (x.1.2.2.2.1 != x.2.1)) | false => (k false)) | false => (k false)) | false => (k (x.1.2.2.2.1 == 0)))) | none => none) | false => (match (x.1.1 == 5) with | true => (match (decide (x.1.2.2.2.1 >= 0)) with | true => (match (decide (x.1.2.2.2.1 < x.2.2)) with | true => (k (x.1.2.2.2.1 != x.2.1)) | false => (k false)) | false => (k false)) | false => (k (x.1.2.2.2.1 == 0)))) | _ => none) | none => none) else none)) | false => (if 0 <= x.1.1 /\ x.1.1 < 7 then (match ((gtab3.map AV.v).drop (x.1.1.toNat * 1))[0]? with | some x7 => (match x7 with | .v (.bool b8) => (match (!b8) with | true => (match zrr N x.1.2.2.1 with | some y9 => (match (!y9) with | true => (k false) | false => (match (x.1.1 == 5) with | true => (match (decide (x.1.2.2.2.1 >= 0)) with | true => (match (decide (x.1.2.2.2.1 < x.2.2)) with | true => (k (x.1.2.2.2.1 != x.2.1)) | false => (k false)) | false => (k false)) | false => (k (x.1.2.2.2.1 == 0)))) | none => none) | false => (match (x.1.1 == 5) with | true => (match (decide (x.1.2.2.2.1 >= 0)) with | true => (match (decide (x.1.2.2.2.1 < x.2.2)) with | true => (k (x.1.2.2.2.1 != x.2.1)) | false => (k false)) | false => (k false)) | false => (k (x.1.2.2.2.1 == 0)))) | _ => none) | none => none) else none)) | _ => none) | none => none) else none)) | none => none)))))
abbrev zyR (N : Nat) (x : RT7 × Int × Int) : Option (Bool) := (zli N).d x
theorem zvu (N : Nat) : Zd (zli N).t := by
 intro x α β k k' r r' h h1
 revert h
 dsimp only [zli]
 (repeat' (first | (with_reducible refine ze ?_ ?_) | split)) <;> intro h <;> first | exact h1 _ h | cases h
theorem ztf (N : Nat) : Zh (zn qP) (zDJ N) zxy (lam N []) Tryd.f48 (zli N) := fun x => by kernel_rfl
def zEd (N : Nat) : Ent qP := zA (zd qP) (zi _) zl 48 Tryd.f48 Tryd.func48 rfl zxy (lam N []) (zm (l := []) an (by kernel_rfl)) (zli N) (fun _ => ⟨rfl, rfl⟩) (ztf N) (fun _ _ _ h => zw h (fun _ _ => rfl) (fun _ _ => rfl)) (zvu N)
def zw4 : Nat -> Keep × Keep := anL []
def zD8 (N : Nat) : GamK := gam (P := qP) [zDS N]
def zk5 (N : Nat) : FSpec where
 X := RT0 × RT0
 Y := Bool
 ash := [[none, none, none, none, none, none, none, none, none, some 9, none, none, none, none, none, none, none, none, none, none, none, none, none, none, none], [none, none, none, none, none, none, none, none, none, some 9, none, none, none, none, none, none, none, none, none, none, none, none, none, none, none]]
 S := ⟨[[none]], [], [], [], []⟩
 pat := fun a b => rdA [.agg RK0, .agg RK0] [] a b fun ⟨a0, a1, _⟩ _ => (a0, a1)
 args := fun x => [(AV.agg (zB x.1)), (AV.agg (zB x.2))]
 ret := fun y => ⟨(AV.v (.bool y)), [], none, [], [], [], none⟩
 t := fun x α k => (match zBU N ([(zB x.1)], [(zB x.2)]) with | some y1 => (k y1) | none => none)
abbrev zlr (N : Nat) (x : RT0 × RT0) : Option (Bool) := (zk5 N).d x
theorem zuT (N : Nat) : Zd (zk5 N).t := by
 intro x α β k k' r r' h h1
 revert h
 dsimp only [zk5]
 (repeat' (first | (with_reducible refine ze ?_ ?_) | split)) <;> intro h <;> first | exact h1 _ h | cases h
theorem zuV (N : Nat) : Zh (zn qP) (zD8 N) zw4 (lam N []) Tryd.f38 (zk5 N) := fun x => by kernel_rfl
def zAX (N : Nat) : Ent qP := zA (zd qP) (zi _) zl 38 Tryd.f38 Tryd.func38 rfl zw4 (lam N []) (zm (l := []) an (by kernel_rfl)) (zk5 N) (fun _ => ⟨rfl, rfl⟩) (zuV N) (fun _ _ _ h => zw h (fun _ _ => rfl) (fun _ _ => rfl)) (zuT N)
def Jh : Nat -> Keep × Keep := anL [(8, ⟨[1, 14, 15], [], [1], [(13, 1)], [], [], [], [], false, none, []⟩, qK [2] [] []), (21, ⟨[1, 3, 4, 14, 15, 40, 41], [], [1, 4], [(13, 1), (39, 29)], [], [], [], [], false, none, []⟩, ⟨[1, 2, 14, 15], [], [1], [(13, 1)], [], [], [], [], false, none, []⟩)]
def zxz (N : Nat) : GamK := gam (P := qP) [zEd N, zAX N]
def ZR (N : Nat) : LSpec where
 X := qL × qL × Int × Int × Int × Int × Int × qL × qL
 Y := (qL × Bool × Int × Int × qL) ⊕ (qL × Int × Int × qL)
 p := fun s => rdS 92 0 [(13, .lst 1), (39, .lst 29), (1, .ptr 1 0), (3, .int .i64), (4, .ptr 4 0), (14, .int .i64), (15, .int .i64), (40, .int .i64), (41, .int .i64)] [(1, .cells [.lst 1]), (4, .cells [.lst 29])] s fun ⟨a0, a1, _, a2, _, a3, a4, a5, a6, _⟩ ⟨⟨a7, _⟩, ⟨a8, _⟩, _⟩ => (a0, a1, a2, a3, a4, a5, a6, a7, a8)
 st := fun u21 => mkS 92 [(13, (AV.list 1 u21.1 none)), (39, (AV.list 29 u21.2.1 none)), (1, (AV.ptr 1 0)), (3, (qI u21.2.2.1)), (4, (AV.ptr 4 0)), (14, (qI u21.2.2.2.1)), (15, (qI u21.2.2.2.2.1)), (40, (qI u21.2.2.2.2.2.1)), (41, (qI u21.2.2.2.2.2.2.1))] [(1, [(AV.list 1 u21.2.2.2.2.2.2.2.1 none)]), (4, [(AV.list 29 u21.2.2.2.2.2.2.2.2 none)])] (Jh 21).1.toks 0
 out := fun y => match y with
  | .inl y => (.ret, mkS 92 [(13, (AV.list 1 y.1 none)), (1, (AV.ptr 1 0)), (2, (AV.v (.bool y.2.1))), (14, (qI y.2.2.1)), (15, (qI y.2.2.2.1))] [(1, [(AV.list 1 y.2.2.2.2 none)])] (Jh 21).2.toks 0)
  | .inr y => (.exit 2, mkS 92 [(13, (AV.list 1 y.1 none)), (1, (AV.ptr 1 0)), (14, (qI y.2.1)), (15, (qI y.2.2.1))] [(1, [(AV.list 1 y.2.2.2 none)])] (Jh 21).2.toks 0)
 b := fun u21 α kn ke => (match (decide (u21.2.2.2.2.2.2.1 < u21.2.2.2.2.2.1)) with | true => (if 0 <= u21.2.2.2.2.2.2.1 then (match u21.2.1[u21.2.2.2.2.2.2.1.toNat]? with | some c17 => (match zlh c17 with | some e18 => (match zyR N (e18, u21.2.2.1, (u21.2.2.2.2.2.2.2.1.length : Int)) with | some y19 => (match (!y19) with | true => (ke (.inl (u21.1, false, u21.2.2.2.1, u21.2.2.2.2.1, u21.2.2.2.2.2.2.2.1))) | false => (match (u21.2.2.2.2.2.2.1 == 0) with | true => (kn (u21.1, u21.2.1, u21.2.2.1, u21.2.2.2.1, u21.2.2.2.2.1, u21.2.2.2.2.2.1, (i64 (u21.2.2.2.2.2.2.1 + 1)), u21.2.2.2.2.2.2.2)) | false => (if 0 <= (i64 (u21.2.2.2.2.2.2.1 - 1)) then (match u21.2.2.2.2.2.2.2.2[(i64 (u21.2.2.2.2.2.2.1 - 1)).toNat]? with | some c20 => (match zlh c20 with | some e21 => (match (decide (e18.2.1 < e21.2.1)) with | true => (ke (.inl (u21.1, false, u21.2.2.2.1, u21.2.2.2.2.1, u21.2.2.2.2.2.2.2.1))) | false => (if 0 <= e18.1 /\ e18.1 < 7 then (if 0 <= e21.1 /\ e21.1 < 7 then (match (((gtab1.map AV.v).drop (e18.1.toNat * 7)).drop (e21.1.toNat * 1))[0]? with | some x22 => (match x22 with | .v (.bool b23) => (match (!b23) with | true => (ke (.inl (u21.1, false, u21.2.2.2.1, u21.2.2.2.2.1, u21.2.2.2.2.2.2.2.1))) | false => (if 0 <= e18.1 /\ e18.1 < 7 then (match ((gtab2.map AV.v).drop (e18.1.toNat * 1))[0]? with | some x24 => (match x24 with | .v (.bool b25) => (match b25 with | true => (match zlr N ((zx e18), (zx e21)) with | some y26 => (match (!y26) with | true => (ke (.inl (u21.1, false, u21.2.2.2.1, u21.2.2.2.2.1, u21.2.2.2.2.2.2.2.1))) | false => (kn (u21.1, u21.2.1, u21.2.2.1, u21.2.2.2.1, u21.2.2.2.2.1, u21.2.2.2.2.2.1, (i64 (u21.2.2.2.2.2.2.1 + 1)), u21.2.2.2.2.2.2.2))) | none => none) | false => (kn (u21.1, u21.2.1, u21.2.2.1, u21.2.2.2.1, u21.2.2.2.2.1, u21.2.2.2.2.2.1, (i64 (u21.2.2.2.2.2.2.1 + 1)), u21.2.2.2.2.2.2.2))) | _ => none) | none => none) else none)) | _ => none) | none => none) else none) else none)) | none => none) | none => none) else none))) | none => none) | none => none) | none => none) else none) | false => (ke (.inr (u21.1, u21.2.2.2.1, u21.2.2.2.2.1, u21.2.2.2.2.2.2.2.1))))
abbrev zmG (N : Nat) (x : qL × qL × Int × Int × Int × Int × Int × qL × qL) : Option ((qL × Bool × Int × Int × qL) ⊕ (qL × Int × Int × qL)) := (ZR N).L N x
def jG (N : Nat) : LSpec where
 X := qL × Int × Int × qL
 Y := (Bool) ⊕ (Unit)
 p := fun s => rdS 92 0 [(13, .lst 1), (1, .ptr 1 0), (14, .int .i64), (15, .int .i64)] [(1, .cells [.lst 1])] s fun ⟨a0, _, a1, a2, _⟩ ⟨⟨a3, _⟩, _⟩ => (a0, a1, a2, a3)
 st := fun u8 => mkS 92 [(13, (AV.list 1 u8.1 none)), (1, (AV.ptr 1 0)), (14, (qI u8.2.1)), (15, (qI u8.2.2.1))] [(1, [(AV.list 1 u8.2.2.2 none)])] (Jh 8).1.toks 0
 out := fun y => match y with
  | .inl y => (.ret, mkS 92 [(2, (AV.v (.bool y)))] [] (Jh 8).2.toks 0)
  | .inr y => (.exit 0, mkS 92 [] [] (Jh 8).2.toks 0)
 b := fun u8 α kn ke => (match (decide (u8.2.2.1 < u8.2.1)) with | true => (if 0 <= u8.2.2.1 then (match u8.1[u8.2.2.1.toNat]? with | some c1 => (match zfU c1 with | some e2 => (match (decide ((e2.1.length : Int) < 1)) with | true => (ke (.inl false)) | false => (match (decide ((e2.1.length : Int) > 100)) with | true => (ke (.inl false)) | false => (if 0 <= (0 : Int) then (match e2.1[(0 : Int).toNat]? with | some c3 => (match (c3.drop 0)[0]? with | some x4 => (match x4 with | .v (.int q6 n5) => (if q6 = .i64 then (match (n5 != 1) with | true => (ke (.inl false)) | false => (match zmG N (u8.1, e2.1, u8.2.2.1, u8.2.1, u8.2.2.1, (e2.1.length : Int), 0, u8.2.2.2, e2.1) with | some y27 => (match y27 with | .inl z28 => (ke (.inl z28.2.1)) | .inr z29 => (kn (z29.1, z29.2.1, (i64 (z29.2.2.1 + 1)), z29.2.2.2))) | none => none)) else none) | _ => none) | none => none) | none => none) else none))) | none => none) | none => none) else none) | false => (ke (.inr ())))
abbrev zwj (N : Nat) (x : qL × Int × Int × qL) : Option ((Bool) ⊕ (Unit)) := (jG N).L N x
def zd2 (N : Nat) : FSpec where
 X := qL
 Y := Bool
 ash := [[some 1]]
 S := ⟨[[none]], [], [], [], []⟩
 pat := fun a b => zk a fun v1 c2 => jg v1 fun c3 => zk c3 fun c4 c5 => Z3 1 c4 fun a0 => zQ c5 <| zQ c2 <| zQ b <| some a0
 args := fun x => [(AV.agg [(AV.list 1 x none)])]
 ret := fun y => ⟨(AV.v (.bool y)), [], none, [], [], [], none⟩
 t := fun x α k => (match (decide ((x.length : Int) > 500)) with | true => (k false) | false => (match zwj N (x, (x.length : Int), 0, x) with | some y30 => (match y30 with | .inl z31 => (k z31) | .inr z32 => (k true)) | none => none))
abbrev zl4 (N : Nat) (x : qL) : Option (Bool) := (zd2 N).d x
def zbN (N : Nat) : List (Nat × LSpec) := [(8, jG N), (21, ZR N)]
def zfK : Code := Tryd.f14.body.getD .skip
theorem zoX (N : Nat) : Par (ZR N).b := by
 intro x α β kn ke kn' ke' r r' h h1 h2
 revert h
 dsimp only [ZR]
 (repeat' (first | (with_reducible refine ze ?_ ?_) | split)) <;> intro h <;> first | exact h1 _ h | exact h2 _ h | cases h
theorem zkl (N : Nat) : jh (zn qP) (zxz N) Jh N (zbN N) 21 zfK (ZR N) := fun x α kn ke => by kernel_rfl
theorem zeF (N : Nat) : ZK qP Jh N (zbN N) 21 (zc 21 zfK) :=
 zD (zd qP) (zi _) zl Jh N (zbN N) 21 zfK (l := []) (by kernel_rfl) (by kernel_rfl) an (ZR N) rfl (fun s x hc h => by dsimp only [ZR] at h; exact zJ hc h (fun _ _ => rfl) rfl rfl rfl) (fun _ => rfl) (zkl N) (zoX N)
theorem zuD (N : Nat) : Par (jG N).b := by
 intro x α β kn ke kn' ke' r r' h h1 h2
 revert h
 dsimp only [jG]
 (repeat' (first | (with_reducible refine ze ?_ ?_) | split)) <;> intro h <;> first | exact h1 _ h | exact h2 _ h | cases h
theorem zoM (N : Nat) : jh (zn qP) (zxz N) Jh N (zbN N) 8 zfK (jG N) := fun x α kn ke => by kernel_rfl
theorem znK (N : Nat) : ZK qP Jh N (zbN N) 8 (zc 8 zfK) :=
 zD (zd qP) (zi _) zl Jh N (zbN N) 8 zfK (l := [(21, zc 21 zfK)]) (by kernel_rfl) (by kernel_rfl) (al (zeF N) an) (jG N) rfl (fun s x hc h => by dsimp only [jG] at h; exact zJ hc h (fun _ _ => rfl) rfl rfl rfl) (fun _ => rfl) (zoM N) (zuD N)
theorem zrL (N : Nat) : Zd (zd2 N).t := by
 intro x α β k k' r r' h h1
 revert h
 dsimp only [zd2]
 (repeat' (first | (with_reducible refine ze ?_ ?_) | split)) <;> intro h <;> first | exact h1 _ h | cases h
theorem zvJ (N : Nat) : Zh (zn qP) (zxz N) Jh (lam N (zbN N)) Tryd.f14 (zd2 N) := fun x => by kernel_rfl
theorem zzN (N : Nat) (a : List AV) (b : qL) (x : (zd2 N).X) (h : (zd2 N).pat a b = some x) : a = (zd2 N).args x /\ b = (zd2 N).bs x := by
 obtain ⟨v1, c2, rfl, g0⟩ := zb (show zk _ _ = some x from h)
 obtain ⟨c3, rfl, g1⟩ := zR g0; clear g0
 obtain ⟨c4, c5, rfl, g2⟩ := zb g1; clear g1
 obtain ⟨a0, rfl, g3⟩ := zr g2; clear g2
 obtain ⟨rfl, g4⟩ := zg g3; clear g3
 obtain ⟨rfl, g5⟩ := zg g4; clear g4
 obtain ⟨rfl, g6⟩ := zg g5; clear g5
 clear h
 cases g6
 exact ⟨rfl, rfl⟩
def zyA (N : Nat) : Ent qP := zA (zd qP) (zi _) zl 14 Tryd.f14 Tryd.func14 rfl Jh (lam N (zbN N)) (zm (l := [(8, zc 8 zfK), (21, zc 21 zfK)]) (al (znK N) (al (zeF N) an)) (by kernel_rfl)) (zd2 N) (fun _ => ⟨rfl, rfl⟩) (zvJ N) (zzN N) (zrL N)
def JQ : Nat -> Keep × Keep := anL [(5, ⟨[3, 10, 11], [], [], [(9, 1)], [], [], [], [], false, none, []⟩, qK [3] [] []), (14, ⟨[3, 10, 11, 17, 18], [], [], [(9, 1), (16, 29)], [], [], [], [], false, none, []⟩, ⟨[3, 10, 11], [], [], [(9, 1)], [], [], [], [], false, none, []⟩)]
def zxE (N : Nat) : GamK := gam (P := qP) []
def ZV (N : Nat) : LSpec where
 X := qL × qL × Int × Int × Int × Int × Int
 Y := (qL × Int × Int × Int)
 p := fun s => rdS 29 0 [(9, .lst 1), (16, .lst 29), (3, .int .i64), (10, .int .i64), (11, .int .i64), (17, .int .i64), (18, .int .i64)] [] s fun ⟨a0, a1, a2, a3, a4, a5, a6, _⟩ _ => (a0, a1, a2, a3, a4, a5, a6)
 st := fun u14 => mkS 29 [(9, (AV.list 1 u14.1 none)), (16, (AV.list 29 u14.2.1 none)), (3, (qI u14.2.2.1)), (10, (qI u14.2.2.2.1)), (11, (qI u14.2.2.2.2.1)), (17, (qI u14.2.2.2.2.2.1)), (18, (qI u14.2.2.2.2.2.2))] [] (JQ 14).1.toks 0
 out := fun y => (.exit 2, mkS 29 [(9, (AV.list 1 y.1 none)), (3, (qI y.2.1)), (10, (qI y.2.2.1)), (11, (qI y.2.2.2))] [] (JQ 14).2.toks 0)
 b := fun u14 α kn ke => (match (decide (u14.2.2.2.2.2.2 < u14.2.2.2.2.2.1)) with | true => (if 0 <= u14.2.2.2.2.2.2 then (match u14.2.1[u14.2.2.2.2.2.2.toNat]? with | some c3 => (match zlh c3 with | some e4 => (kn (u14.1, u14.2.1, (if e4.2.1 > u14.2.2.1 then e4.2.1 else u14.2.2.1), u14.2.2.2.1, u14.2.2.2.2.1, u14.2.2.2.2.2.1, (i64 (u14.2.2.2.2.2.2 + 1)))) | none => none) | none => none) else none) | false => (ke (u14.1, u14.2.2.1, u14.2.2.2.1, u14.2.2.2.2.1)))
abbrev znV (N : Nat) (x : qL × qL × Int × Int × Int × Int × Int) : Option ((qL × Int × Int × Int)) := (ZV N).L N x
def jL (N : Nat) : LSpec where
 X := qL × Int × Int × Int
 Y := (Int)
 p := fun s => rdS 29 0 [(9, .lst 1), (3, .int .i64), (10, .int .i64), (11, .int .i64)] [] s fun ⟨a0, a1, a2, a3, _⟩ _ => (a0, a1, a2, a3)
 st := fun u5 => mkS 29 [(9, (AV.list 1 u5.1 none)), (3, (qI u5.2.1)), (10, (qI u5.2.2.1)), (11, (qI u5.2.2.2))] [] (JQ 5).1.toks 0
 out := fun y => (.exit 0, mkS 29 [(3, (qI y))] [] (JQ 5).2.toks 0)
 b := fun u5 α kn ke => (match (decide (u5.2.2.2 < u5.2.2.1)) with | true => (if 0 <= u5.2.2.2 then (match u5.1[u5.2.2.2.toNat]? with | some c1 => (match zfU c1 with | some e2 => (match znV N (u5.1, e2.1, u5.2.1, u5.2.2.1, u5.2.2.2, (e2.1.length : Int), 0) with | some y5 => (kn (y5.1, y5.2.1, y5.2.2.1, (i64 (y5.2.2.2 + 1)))) | none => none) | none => none) | none => none) else none) | false => (ke u5.2.1))
abbrev zwH (N : Nat) (x : qL × Int × Int × Int) : Option ((Int)) := (jL N).L N x
def zdT (N : Nat) : FSpec where
 X := qL
 Y := Int
 ash := [[some 1]]
 S := ⟨[[none]], [], [], [], []⟩
 pat := fun a b => zk a fun v1 c2 => jg v1 fun c3 => zk c3 fun c4 c5 => Z3 1 c4 fun a0 => zQ c5 <| zQ c2 <| zQ b <| some a0
 args := fun x => [(AV.agg [(AV.list 1 x none)])]
 ret := fun y => ⟨(AV.v (.int .i64 y)), [], none, [], [], [], none⟩
 t := fun x α k => (match zwH N (x, 0, (x.length : Int), 0) with | some y6 => (k y6) | none => none)
abbrev zBi (N : Nat) (x : qL) : Option (Int) := (zdT N).d x
def zb3 (N : Nat) : List (Nat × LSpec) := [(5, jL N), (14, ZV N)]
def zfR : Code := Tryd.f64.body.getD .skip
theorem znQ (N : Nat) : Par (ZV N).b := by
 intro x α β kn ke kn' ke' r r' h h1 h2
 revert h
 dsimp only [ZV]
 (repeat' (first | (with_reducible refine ze ?_ ?_) | split)) <;> intro h <;> first | exact h1 _ h | exact h2 _ h | cases h
theorem zlH (N : Nat) : jh (zn qP) (zxE N) JQ N (zb3 N) 14 zfR (ZV N) := fun x α kn ke => by kernel_rfl
theorem zeq (N : Nat) : ZK qP JQ N (zb3 N) 14 (zc 14 zfR) :=
 zD (zd qP) (zi _) zl JQ N (zb3 N) 14 zfR (l := []) (by kernel_rfl) (by kernel_rfl) an (ZV N) rfl (fun s x hc h => by dsimp only [ZV] at h; exact zJ hc h (fun _ _ => rfl) rfl rfl rfl) (fun _ => rfl) (zlH N) (znQ N)
theorem zrs (N : Nat) : Par (jL N).b := by
 intro x α β kn ke kn' ke' r r' h h1 h2
 revert h
 dsimp only [jL]
 (repeat' (first | (with_reducible refine ze ?_ ?_) | split)) <;> intro h <;> first | exact h1 _ h | exact h2 _ h | cases h
theorem zoA (N : Nat) : jh (zn qP) (zxE N) JQ N (zb3 N) 5 zfR (jL N) := fun x α kn ke => by kernel_rfl
theorem zm5 (N : Nat) : ZK qP JQ N (zb3 N) 5 (zc 5 zfR) :=
 zD (zd qP) (zi _) zl JQ N (zb3 N) 5 zfR (l := [(14, zc 14 zfR)]) (by kernel_rfl) (by kernel_rfl) (al (zeq N) an) (jL N) rfl (fun s x hc h => by dsimp only [jL] at h; exact zJ hc h (fun _ _ => rfl) rfl rfl rfl) (fun _ => rfl) (zoA N) (zrs N)
theorem zrU (N : Nat) : Zd (zdT N).t := by
 intro x α β k k' r r' h h1
 revert h
 dsimp only [zdT]
 (repeat' (first | (with_reducible refine ze ?_ ?_) | split)) <;> intro h <;> first | exact h1 _ h | cases h
theorem ztF (N : Nat) : Zh (zn qP) (zxE N) JQ (lam N (zb3 N)) Tryd.f64 (zdT N) := fun x => by kernel_rfl
theorem zxG (N : Nat) (a : List AV) (b : qL) (x : (zdT N).X) (h : (zdT N).pat a b = some x) : a = (zdT N).args x /\ b = (zdT N).bs x := by
 obtain ⟨v1, c2, rfl, g0⟩ := zb (show zk _ _ = some x from h)
 obtain ⟨c3, rfl, g1⟩ := zR g0; clear g0
 obtain ⟨c4, c5, rfl, g2⟩ := zb g1; clear g1
 obtain ⟨a0, rfl, g3⟩ := zr g2; clear g2
 obtain ⟨rfl, g4⟩ := zg g3; clear g3
 obtain ⟨rfl, g5⟩ := zg g4; clear g4
 obtain ⟨rfl, g6⟩ := zg g5; clear g5
 clear h
 cases g6
 exact ⟨rfl, rfl⟩
def zCP (N : Nat) : Ent qP := zA (zd qP) (zi _) zl 64 Tryd.f64 Tryd.func64 rfl JQ (lam N (zb3 N)) (zm (l := [(5, zc 5 zfR), (14, zc 14 zfR)]) (al (zm5 N) (al (zeq N) an)) (by kernel_rfl)) (zdT N) (fun _ => ⟨rfl, rfl⟩) (ztF N) (zxG N) (zrU N)
def zxu : Nat -> Keep × Keep := anL []
def zDV (N : Nat) : GamK := gam (P := qP) [zCP N]
def zdY (N : Nat) : FSpec where
 X := qL × Int
 Y := Int
 ash := [[some 1], [none]]
 S := ⟨[[none]], [], [], [], []⟩
 pat := fun a b => zk a fun v1 c2 => jg v1 fun c3 => zk c3 fun c4 c5 => Z3 1 c4 fun a0 => zQ c5 <| zk c2 fun v6 c7 => jO .i64 v6 fun a1 => zQ c7 <| zQ b <| some (a0, a1)
 args := fun x => [(AV.agg [(AV.list 1 x.1 none)]), (AV.v (.int .i64 x.2))]
 ret := fun y => ⟨(AV.v (.int .i64 y)), [], none, [], [], [], none⟩
 t := fun x α k => (match (decide (x.2 < 0)) with | true => (k 2) | false => (match (decide (x.2 > 18014398509481984)) with | true => (k 2) | false => (match zBi N x.1 with | some y1 => (match (decide (x.2 < y1)) with | true => (k 9) | false => (k 0)) | none => none)))
abbrev zrV (N : Nat) (x : qL × Int) : Option (Int) := (zdY N).d x
theorem zrg (N : Nat) : Zd (zdY N).t := by
 intro x α β k k' r r' h h1
 revert h
 dsimp only [zdY]
 (repeat' (first | (with_reducible refine ze ?_ ?_) | split)) <;> intro h <;> first | exact h1 _ h | cases h
theorem zsd (N : Nat) : Zh (zn qP) (zDV N) zxu (lam N []) Tryd.f34 (zdY N) := fun x => by kernel_rfl
theorem zxN (N : Nat) (a : List AV) (b : qL) (x : (zdY N).X) (h : (zdY N).pat a b = some x) : a = (zdY N).args x /\ b = (zdY N).bs x := by
 obtain ⟨v1, c2, rfl, g0⟩ := zb (show zk _ _ = some x from h)
 obtain ⟨c3, rfl, g1⟩ := zR g0; clear g0
 obtain ⟨c4, c5, rfl, g2⟩ := zb g1; clear g1
 obtain ⟨a0, rfl, g3⟩ := zr g2; clear g2
 obtain ⟨rfl, g4⟩ := zg g3; clear g3
 obtain ⟨v6, c7, rfl, g5⟩ := zb g4; clear g4
 obtain ⟨a1, rfl, g6⟩ := zC g5; clear g5
 obtain ⟨rfl, g7⟩ := zg g6; clear g6
 obtain ⟨rfl, g8⟩ := zg g7; clear g7
 clear h
 cases g8
 exact ⟨rfl, rfl⟩
def zAl (N : Nat) : Ent qP := zA (zd qP) (zi _) zl 34 Tryd.f34 Tryd.func34 rfl zxu (lam N []) (zm (l := []) an (by kernel_rfl)) (zdY N) (fun _ => ⟨rfl, rfl⟩) (zsd N) (zxN N) (zrg N)
def zww : Nat -> Keep × Keep := anL []
def zEv (N : Nat) : GamK := gam (P := qP) []
def zlb (N : Nat) : FSpec where
 X := qL
 Y := qL
 ash := [[some 9]]
 S := ⟨[[some 2000009]], [], [], [], []⟩
 pat := fun a b => rdA [.lst 9] [] a b fun ⟨a0, _⟩ _ => a0
 args := fun x => [(AV.list 9 x none)]
 ret := fun y => ⟨(AV.list 9 y (some 2560000000)), [], none, [], [2560000000], [], none⟩
 t := fun x α k => (match x with | [] => (zwG (k ([] : qL)) (if (([] : qL).length + x.length) * 104 <= zh then (k (([] : qL) ++ x)) else none)) | _ :: _ => (if (([] : qL).length + x.length) * 104 <= zh then (k (([] : qL) ++ x)) else none))
abbrev zsi (N : Nat) (x : qL) : Option (qL) := (zlb N).d x
theorem zq8 (N : Nat) : Zd (zlb N).t := by
 intro x α β k k' r r' h h1
 revert h
 dsimp only [zlb]
 (repeat' (first | (with_reducible refine ze ?_ ?_) | (with_reducible refine zrX ?_ ?_) | split)) <;> intro h <;> first | exact h1 _ h | cases h
theorem zuk (N : Nat) : Zh (zn qP) (zEv N) zww (lam N []) Tryd.f66 (zlb N) := fun x => by kernel_rfl
def zCN (N : Nat) : Ent qP := zA (zd qP) (zi _) zl 66 Tryd.f66 Tryd.func66 rfl zww (lam N []) (zm (l := []) an (by kernel_rfl)) (zlb N) (fun _ => ⟨rfl, rfl⟩) (zuk N) (fun _ _ _ h => zw h (fun _ _ => rfl) (fun _ _ => rfl)) (zq8 N)
def zwp : Nat -> Keep × Keep := anL []
def zDg (N : Nat) : GamK := gam (P := qP) [zCN N]
def zlk (N : Nat) : FSpec where
 X := RT0
 Y := RT0
 ash := [[none, none, none, none, none, none, none, none, none, some 9, none, none, none, none, none, none, none, none, none, none, none, none, none, none, none]]
 S := ⟨[[none, none, none, none, none, none, none, none, none, some 9, none, none, none, none, none, none, none, none, none, none, none, none, none, none, none]], [], [], [], []⟩
 pat := fun a b => rdA [.agg RK0] [] a b fun ⟨a0, _⟩ _ => a0
 args := fun x => [(AV.agg (zB x))]
 ret := fun y => ⟨(AV.agg (zB y)), [], none, [], [], [], none⟩
 t := fun x α k => (match zsi N x.2.2.2.2.2.2.2.2.2.1 with | some y1 => (k (x.1, x.2.1, x.2.2.1, x.2.2.2.1, x.2.2.2.2.1, x.2.2.2.2.2.1, x.2.2.2.2.2.2.1, x.2.2.2.2.2.2.2.1, x.2.2.2.2.2.2.2.2.1, y1, x.2.2.2.2.2.2.2.2.2.2)) | none => none)
abbrev zcQ (N : Nat) (x : RT0) : Option (RT0) := (zlk N).d x
theorem zuM (N : Nat) : Zd (zlk N).t := by
 intro x α β k k' r r' h h1
 revert h
 dsimp only [zlk]
 (repeat' (first | (with_reducible refine ze ?_ ?_) | split)) <;> intro h <;> first | exact h1 _ h | cases h
theorem zrY (N : Nat) : Zh (zn qP) (zDg N) zwp (lam N []) Tryd.f39 (zlk N) := fun x => by kernel_rfl
def zq3 (N : Nat) : Ent qP := zA (zd qP) (zi _) zl 39 Tryd.f39 Tryd.func39 rfl zwp (lam N []) (zm (l := []) an (by kernel_rfl)) (zlk N) (fun _ => ⟨rfl, rfl⟩) (zrY N) (fun _ _ _ h => zw h (fun _ _ => rfl) (fun _ _ => rfl)) (zuM N)
def zwN : Nat -> Keep × Keep := anL []
def zDP (N : Nat) : GamK := gam (P := qP) []
def zqh (N : Nat) : FSpec where
 X := Int × Int
 Y := Int × Int
 ash := [[none], [none]]
 S := ⟨[[none], [none]], [], [], [], []⟩
 pat := fun a b => rdA [.int .u64, .int .u64] [] a b fun ⟨a0, a1, _⟩ _ => (a0, a1)
 args := fun x => [(AV.v (.int .u64 x.1)), (AV.v (.int .u64 x.2))]
 ret := fun y => ⟨(AV.tup [(AV.v (.int .u64 y.1)), (AV.v (.int .u64 y.2))]), [], none, [], [], [], none⟩
 t := fun x α k => (k ((IntKind.u64.wrap ((IntKind.u64.wrap ((IntKind.u64.wrap ((shR .u64 x.1 (32 : Int)) * (shR .u64 x.2 (32 : Int)))) + (shR .u64 (IntKind.u64.wrap ((IntKind.u64.wrap ((shR .u64 x.1 (32 : Int)) * (zwc .u64 x.2 (4294967295 : Int)))) + (shR .u64 (IntKind.u64.wrap ((zwc .u64 x.1 (4294967295 : Int)) * (zwc .u64 x.2 (4294967295 : Int)))) (32 : Int)))) (32 : Int)))) + (shR .u64 (IntKind.u64.wrap ((zwc .u64 (IntKind.u64.wrap ((IntKind.u64.wrap ((shR .u64 x.1 (32 : Int)) * (zwc .u64 x.2 (4294967295 : Int)))) + (shR .u64 (IntKind.u64.wrap ((zwc .u64 x.1 (4294967295 : Int)) * (zwc .u64 x.2 (4294967295 : Int)))) (32 : Int)))) (4294967295 : Int)) + (IntKind.u64.wrap ((zwc .u64 x.1 (4294967295 : Int)) * (shR .u64 x.2 (32 : Int)))))) (32 : Int)))), (IntKind.u64.wrap (x.1 * x.2))))
abbrev zCL (N : Nat) (x : Int × Int) : Option (Int × Int) := (zqh N).d x
theorem zts (N : Nat) : Zd (zqh N).t := by
 intro x α β k k' r r' h h1
 revert h
 dsimp only [zqh]
 (repeat' (first | (with_reducible refine ze ?_ ?_) | split)) <;> intro h <;> first | exact h1 _ h | cases h
theorem zsv (N : Nat) : Zh (zn qP) (zDP N) zwN (lam N []) Tryd.f93 (zqh N) := fun x => by kernel_rfl
def zDT (N : Nat) : Ent qP := zA (zd qP) (zi _) zl 93 Tryd.f93 Tryd.func93 rfl zwN (lam N []) (zm (l := []) an (by kernel_rfl)) (zqh N) (fun _ => ⟨rfl, rfl⟩) (zsv N) (fun _ _ _ h => zw h (fun _ _ => rfl) (fun _ _ => rfl)) (zts N)
def zxt : Nat -> Keep × Keep := anL []
def zDa (N : Nat) : GamK := gam (P := qP) [zDT N]
def zqn (N : Nat) : FSpec where
 X := Int × Int
 Y := Int × Int
 ash := [[none], [none]]
 S := ⟨[[none], [none]], [], [], [], []⟩
 pat := fun a b => rdA [.int .u64, .int .u64] [] a b fun ⟨a0, a1, _⟩ _ => (a0, a1)
 args := fun x => [(AV.v (.int .u64 x.1)), (AV.v (.int .u64 x.2))]
 ret := fun y => ⟨(AV.tup [(AV.v (.int .u64 y.1)), (AV.v (.int .u64 y.2))]), [], none, [], [], [], none⟩
 t := fun x α k => (match zCL N x with | some y1 => (k y1) | none => none)
abbrev zEq (N : Nat) (x : Int × Int) : Option (Int × Int) := (zqn N).d x
theorem ztA (N : Nat) : Zd (zqn N).t := by
 intro x α β k k' r r' h h1
 revert h
 dsimp only [zqn]
 (repeat' (first | (with_reducible refine ze ?_ ?_) | split)) <;> intro h <;> first | exact h1 _ h | cases h
theorem zuj (N : Nat) : Zh (zn qP) (zDa N) zxt (lam N []) Tryd.f68 (zqn N) := fun x => by kernel_rfl
def zEg (N : Nat) : Ent qP := zA (zd qP) (zi _) zl 68 Tryd.f68 Tryd.func68 rfl zxt (lam N []) (zm (l := []) an (by kernel_rfl)) (zqn N) (fun _ => ⟨rfl, rfl⟩) (zuj N) (fun _ _ _ h => zw h (fun _ _ => rfl) (fun _ _ => rfl)) (ztA N)
def zwf : Nat -> Keep × Keep := anL []
def zCO (N : Nat) : GamK := gam (P := qP) []
def zfF (N : Nat) : FSpec where
 X := qL
 Y := RT7
 ash := [[some 29]]
 S := ⟨[[none, none, none, none, none, none, none, none, none, none, none, none, none, some 9, none, none, none, none, none, none, none, none, none, none, none, none, none, none, none]], [], [], [], []⟩
 pat := fun a b => zk a fun v1 c2 => jg v1 fun c3 => zk c3 fun c4 c5 => Z3 29 c4 fun a0 => zQ c5 <| zQ c2 <| zQ b <| some a0
 args := fun x => [(AV.agg [(AV.list 29 x none)])]
 ret := fun y => ⟨(AV.agg (zN y)), [], none, [], [], [], none⟩
 t := fun x α k => (if 0 <= (i64 ((x.length : Int) - 1)) then (match x[(i64 ((x.length : Int) - 1)).toNat]? with | some c1 => (match zlh c1 with | some e2 => (k e2) | none => none) | none => none) else none)
abbrev zmg (N : Nat) (x : qL) : Option (RT7) := (zfF N).d x
theorem ztD (N : Nat) : Zd (zfF N).t := by
 intro x α β k k' r r' h h1
 revert h
 dsimp only [zfF]
 (repeat' (first | (with_reducible refine ze ?_ ?_) | split)) <;> intro h <;> first | exact h1 _ h | cases h
theorem zr7 (N : Nat) : Zh (zn qP) (zCO N) zwf (lam N []) Tryd.f36 (zfF N) := fun x => by kernel_rfl
theorem zzn (N : Nat) (a : List AV) (b : qL) (x : (zfF N).X) (h : (zfF N).pat a b = some x) : a = (zfF N).args x /\ b = (zfF N).bs x := by
 obtain ⟨v1, c2, rfl, g0⟩ := zb (show zk _ _ = some x from h)
 obtain ⟨c3, rfl, g1⟩ := zR g0; clear g0
 obtain ⟨c4, c5, rfl, g2⟩ := zb g1; clear g1
 obtain ⟨a0, rfl, g3⟩ := zr g2; clear g2
 obtain ⟨rfl, g4⟩ := zg g3; clear g3
 obtain ⟨rfl, g5⟩ := zg g4; clear g4
 obtain ⟨rfl, g6⟩ := zg g5; clear g5
 clear h
 cases g6
 exact ⟨rfl, rfl⟩
def zvq (N : Nat) : Ent qP := zA (zd qP) (zi _) zl 36 Tryd.f36 Tryd.func36 rfl zwf (lam N []) (zm (l := []) an (by kernel_rfl)) (zfF N) (fun _ => ⟨rfl, rfl⟩) (zr7 N) (zzn N) (ztD N)
def zwB : Nat -> Keep × Keep := anL []
def zDr (N : Nat) : GamK := gam (P := qP) []
def znY (N : Nat) : FSpec where
 X := RT0 × RT0
 Y := Bool
 ash := [[none, none, none, none, none, none, none, none, none, some 9, none, none, none, none, none, none, none, none, none, none, none, none, none, none, none], [none, none, none, none, none, none, none, none, none, some 9, none, none, none, none, none, none, none, none, none, none, none, none, none, none, none]]
 S := ⟨[[none]], [], [], [], []⟩
 pat := fun a b => rdA [.agg RK0, .agg RK0] [] a b fun ⟨a0, a1, _⟩ _ => (a0, a1)
 args := fun x => [(AV.agg (zB x.1)), (AV.agg (zB x.2))]
 ret := fun y => ⟨(AV.v (.bool y)), [], none, [], [], [], none⟩
 t := fun x α k => (k (((x.1.1 == x.2.1) && ((x.1.2.1 == x.2.2.1) && ((x.1.2.2.1 == x.2.2.2.1) && ((x.1.2.2.2.1 == x.2.2.2.2.1) && true)))) && ((x.1.2.2.2.2.1 == x.2.2.2.2.2.1) && ((x.1.2.2.2.2.2.1 == x.2.2.2.2.2.2.1) && ((x.1.2.2.2.2.2.2.1 == x.2.2.2.2.2.2.2.1) && ((x.1.2.2.2.2.2.2.2.1 == x.2.2.2.2.2.2.2.2.1) && ((x.1.2.2.2.2.2.2.2.2.1 == x.2.2.2.2.2.2.2.2.2.1) && true)))))))
abbrev zyW (N : Nat) (x : RT0 × RT0) : Option (Bool) := (znY N).d x
theorem zvn (N : Nat) : Zd (znY N).t := by
 intro x α β k k' r r' h h1
 revert h
 dsimp only [znY]
 (repeat' (first | (with_reducible refine ze ?_ ?_) | split)) <;> intro h <;> first | exact h1 _ h | cases h
theorem zt9 (N : Nat) : Zh (zn qP) (zDr N) zwB (lam N []) Tryd.f46 (znY N) := fun x => by kernel_rfl
def zD1 (N : Nat) : Ent qP := zA (zd qP) (zi _) zl 46 Tryd.f46 Tryd.func46 rfl zwB (lam N []) (zm (l := []) an (by kernel_rfl)) (znY N) (fun _ => ⟨rfl, rfl⟩) (zt9 N) (fun _ _ _ h => zw h (fun _ _ => rfl) (fun _ _ => rfl)) (zvn N)
def zaD : Nat -> Keep × Keep := anL [(12, ⟨[7, 8], [], [30], [], [], [], [], [30], false, none, []⟩, ⟨[7], [], [30], [], [], [], [], [30], false, none, []⟩)]
def zv2 (N : Nat) : GamK := gam (P := qP) [zEg N]
def JI (N : Nat) : LSpec where
 X := Nat × Int × qA
 Y := (Nat × qA)
 p := fun s => rdS 48 0 [(7, .vs0 30 1), (8, .int .i64)] [(30, .tt)] s fun ⟨a0, a1, _⟩ ⟨a2, _⟩ => (a0, a1, a2)
 st := fun u12 => mkS 48 [(7, (AV.vs 30 0 u12.1 1)), (8, (qI u12.2.1))] [(30, u12.2.2)] (zaD 12).1.toks 0
 out := fun y => (.exit 0, mkS 48 [(7, (AV.vs 30 0 y.1 1))] [(30, y.2)] (zaD 12).2.toks 0)
 b := fun u12 α kn ke => (match (decide (u12.2.1 < ((u12.1 : Nat) : Int))) with | true => (if 0 <= u12.2.1 /\ u12.2.1 <= (u12.1 : Int) then (if 0 <= u12.2.1 /\ u12.2.1 <= (u12.1 : Int) then (if (0 + (u12.2.1.toNat)) * 1 <= u12.2.2.length then (if ((0 + u12.2.1.toNat) + (u12.1 - u12.2.1.toNat)) * 1 <= u12.2.2.length then (kn (u12.1, (i64 (u12.2.1 + (((Nat.min (u12.2.1.toNat) (u12.1 - u12.2.1.toNat)) : Nat) : Int))), ((splice u12.2.2 ((0 + u12.2.1.toNat) * 1) ((u12.2.2.drop (0 * 1)).take ((Nat.min (u12.2.1.toNat) (u12.1 - u12.2.1.toNat)) * 1))).map dat0))) else none) else none) else none) else none) | false => (ke (u12.1, (u12.2.2.map dat0))))
abbrev zua (N : Nat) (x : Nat × Int × qA) : Option ((Nat × qA)) := (JI N).L N x
def zgg (N : Nat) : FSpec where
 X := qL × Int
 Y := Nat × qA
 ash := [[some 1], [none]]
 S := ⟨[[some 1000001]], [], [], [], []⟩
 bm := true
 pat := fun a b => rdA [.lst 1, .int .i64] [] a b fun ⟨a0, a1, _⟩ _ => (a0, a1)
 args := fun x => [(AV.list 1 x.1 none), (AV.v (.int .i64 x.2))]
 ret := fun y => ⟨(AV.vs 0 0 y.1 1), [], some y.2, [], [], [], none⟩
 t := fun x α k => (match (decide (x.2 < 0)) with | true => none | false => (match zEq N ((IntKind.u64.wrap (x.1.length : Int)), (IntKind.u64.wrap x.2)) with | some y1 => (match (decide (y1.1 > 0)) with | true => none | false => (match (decide (y1.2 > 9223372036854775807)) with | true => none | false => (if 0 <= (IntKind.i64.wrap y1.2) /\ (IntKind.i64.wrap y1.2) <= (IntKind.i64.wrap y1.2) /\ (IntKind.i64.wrap y1.2).toNat * 8 <= zh then (if (0 + ((IntKind.i64.wrap y1.2).toNat)) * 1 <= (List.replicate (IntKind.i64.wrap y1.2).toNat (AV.v (.int .i64 0))).length then (match zua N (((IntKind.i64.wrap y1.2).toNat), (((Nat.min x.1.length ((IntKind.i64.wrap y1.2).toNat)) : Nat) : Int), ((splice (List.replicate (IntKind.i64.wrap y1.2).toNat (AV.v (.int .i64 0))) (0 * 1) ((x.1.take (Nat.min x.1.length ((IntKind.i64.wrap y1.2).toNat))).flatten)).map dat0)) with | some y2 => (k (y2.1, (y2.2.map dat0))) | none => none) else none) else none))) | none => none))
abbrev zwy (N : Nat) (x : qL × Int) : Option (Nat × qA) := (zgg N).d x
def zdo (N : Nat) : List (Nat × LSpec) := [(12, JI N)]
def ziU : Code := Tryd.f44.body.getD .skip
theorem zlO (N : Nat) : Par (JI N).b := by
 intro x α β kn ke kn' ke' r r' h h1 h2
 revert h
 dsimp only [JI]
 (repeat' (first | (with_reducible refine ze ?_ ?_) | split)) <;> intro h <;> first | exact h1 _ h | exact h2 _ h | cases h
theorem zhq (N : Nat) : jh (zn qP) (zv2 N) zaD N (zdo N) 12 ziU (JI N) := fun x α kn ke => by kernel_rfl
theorem zis (N : Nat) : ZK qP zaD N (zdo N) 12 (zc 12 ziU) :=
 zD (zd qP) (zi _) zl zaD N (zdo N) 12 ziU (l := []) (by kernel_rfl) (by kernel_rfl) an (JI N) rfl (fun s x hc h => by dsimp only [JI] at h; exact zJ hc h (fun _ _ => rfl) rfl rfl rfl) (fun _ => rfl) (zhq N) (zlO N)
theorem zn7 (N : Nat) : Zd (zgg N).t := by
 intro x α β k k' r r' h h1
 revert h
 dsimp only [zgg]
 (repeat' (first | (with_reducible refine ze ?_ ?_) | split)) <;> intro h <;> first | exact h1 _ h | cases h
theorem zmv (N : Nat) : Zh (zn qP) (zv2 N) zaD (lam N (zdo N)) Tryd.f44 (zgg N) := fun x => by kernel_rfl
def zAd (N : Nat) : Ent qP := zA (zd qP) (zi _) zl 44 Tryd.f44 Tryd.func44 rfl zaD (lam N (zdo N)) (zm (l := [(12, zc 12 ziU)]) (al (zis N) an) (by kernel_rfl)) (zgg N) (fun _ => ⟨rfl, rfl⟩) (zmv N) (fun _ _ _ h => zw h (fun _ _ => rfl) (fun _ _ => rfl)) (zn7 N)
def j9 : Nat -> Keep × Keep := anL [(2, ⟨[0, 2, 3, 4, 12, 13], [], [0, 1, 2, 3, 4, 5], [(11, 1)], [], [], [], [4, 5], false, none, []⟩, ⟨[], [], [0, 1, 2, 3, 4, 5], [], [], [], [], [4, 5], false, none, []⟩), (14, ⟨[0, 2, 3, 4, 6, 7, 12, 13, 30, 31], [], [0, 1, 2, 3, 4, 5, 7], [(11, 1), (29, 25)], [], [], [], [4, 5], false, none, []⟩, ⟨[0, 2, 3, 4, 12, 13], [], [0, 1, 2, 3, 4, 5], [(11, 1)], [], [], [], [4, 5], false, none, []⟩)]
def zyM (N : Nat) : GamK := gam (P := qP) [zvq N, zD1 N]
def Zb (N : Nat) : LSpec where
 X := qL × qL × Int × Int × Int × Int × Int × qL × Nat × qL × Nat × qA × qA × qL
 Y := (qL × Int × Int × qL × Nat × qL × Nat × qA × qA)
 p := fun s => zes s.env.length 58 <| zes s.nin 6 <| Z3 1 (s.at 11) fun a0 => Z3 25 (s.at 29) fun a1 => pFn 46 (s.at 0) fun c5 c6 => zQ c5 <| zQ c6 <| zbf 1 0 (s.at 2) <| zbf 2 0 (s.at 3) <| zbf 3 0 (s.at 4) <| jO .i64 (s.at 6) fun a2 => zbf 7 0 (s.at 7) <| jO .i64 (s.at 12) fun a3 => jO .i64 (s.at 13) fun a4 => jO .i64 (s.at 30) fun a5 => jO .i64 (s.at 31) fun a6 => Z0 (s.bx 0) fun c17 => zk c17 fun c19 c20 => Z3 1 c19 fun a7 => zQ c20 <| Z0 (s.bx 1) fun c21 => zk c21 fun c23 c24 => zhn 4 1 c23 fun a8 => zQ c24 <| Z0 (s.bx 2) fun c25 => zk c25 fun c27 c28 => Z3 25 c27 fun a9 => zQ c28 <| Z0 (s.bx 3) fun c29 => zk c29 fun c31 c32 => zhn 5 1 c31 fun a10 => zQ c32 <| Z0 (s.bx 4) fun a11 => Z0 (s.bx 5) fun a12 => Z0 (s.bx 7) fun c35 => zk c35 fun c37 c38 => Z3 29 c37 fun a13 => zQ c38 <| some (a0, a1, a2, a3, a4, a5, a6, a7, a8, a9, a10, a11, a12, a13)
 st := fun u14 => mkS 58 [(11, (AV.list 1 u14.1 none)), (29, (AV.list 25 u14.2.1 none)), (0, (AV.fn (.func 46) [] [])), (2, (AV.ptr 1 0)), (3, (AV.ptr 2 0)), (4, (AV.ptr 3 0)), (6, (qI u14.2.2.1)), (7, (AV.ptr 7 0)), (12, (qI u14.2.2.2.1)), (13, (qI u14.2.2.2.2.1)), (30, (qI u14.2.2.2.2.2.1)), (31, (qI u14.2.2.2.2.2.2.1))] [(0, [(AV.list 1 u14.2.2.2.2.2.2.2.1 none)]), (1, [(AV.vs 4 0 u14.2.2.2.2.2.2.2.2.1 1)]), (2, [(AV.list 25 u14.2.2.2.2.2.2.2.2.2.1 none)]), (3, [(AV.vs 5 0 u14.2.2.2.2.2.2.2.2.2.2.1 1)]), (4, u14.2.2.2.2.2.2.2.2.2.2.2.1), (5, u14.2.2.2.2.2.2.2.2.2.2.2.2.1), (7, [(AV.list 29 u14.2.2.2.2.2.2.2.2.2.2.2.2.2 none)])] (j9 14).1.toks 6
 out := fun y => (.exit 2, mkS 58 [(11, (AV.list 1 y.1 none)), (0, (AV.fn (.func 46) [] [])), (2, (AV.ptr 1 0)), (3, (AV.ptr 2 0)), (4, (AV.ptr 3 0)), (12, (qI y.2.1)), (13, (qI y.2.2.1))] [(0, [(AV.list 1 y.2.2.2.1 none)]), (1, [(AV.vs 4 0 y.2.2.2.2.1 1)]), (2, [(AV.list 25 y.2.2.2.2.2.1 none)]), (3, [(AV.vs 5 0 y.2.2.2.2.2.2.1 1)]), (4, y.2.2.2.2.2.2.2.1), (5, y.2.2.2.2.2.2.2.2)] (j9 14).2.toks 6)
 b := fun u14 α kn ke => (match (decide (u14.2.2.2.2.2.2.1 < u14.2.2.2.2.2.1)) with | true => (if 0 <= u14.2.2.2.2.2.2.1 then (match u14.2.1[u14.2.2.2.2.2.2.1.toNat]? with | some c12 => (match zji c12 with | some e13 => (if 0 <= u14.2.2.2.2.2.2.1 /\ u14.2.2.2.2.2.2.1 < (u14.2.2.2.2.2.2.2.2.2.2.1 : Int) then (match u14.2.2.2.2.2.2.2.2.2.2.2.2.1[((0 + u14.2.2.2.2.2.2.1.toNat) * 1)]? with | some x14 => (match x14 with | .v (.bool b15) => (match (!b15) with | true => (match zmg N u14.2.2.2.2.2.2.2.2.2.2.2.2.2 with | some y16 => (match zyW N ((zx y16), e13) with | some y17 => (match y17 with | true => (if 0 <= u14.2.2.1 /\ u14.2.2.1 < (u14.2.2.2.2.2.2.2.2.1 : Int) then (if ((0 + u14.2.2.1.toNat) * 1) + 1 <= u14.2.2.2.2.2.2.2.2.2.2.2.1.length then (if 0 <= u14.2.2.2.2.2.2.1 /\ u14.2.2.2.2.2.2.1 < (u14.2.2.2.2.2.2.2.2.2.2.1 : Int) then (if ((0 + u14.2.2.2.2.2.2.1.toNat) * 1) + 1 <= u14.2.2.2.2.2.2.2.2.2.2.2.2.1.length then (ke (u14.1, u14.2.2.2.1, u14.2.2.2.2.1, u14.2.2.2.2.2.2.2.1, u14.2.2.2.2.2.2.2.2.1, u14.2.2.2.2.2.2.2.2.2.1, u14.2.2.2.2.2.2.2.2.2.2.1, ((splice u14.2.2.2.2.2.2.2.2.2.2.2.1 ((0 + u14.2.2.1.toNat) * 1) [(AV.v (.int .i64 u14.2.2.2.2.2.2.1))]).map dat0), ((splice u14.2.2.2.2.2.2.2.2.2.2.2.2.1 ((0 + u14.2.2.2.2.2.2.1.toNat) * 1) [(AV.v (.bool true))]).map dat0))) else none) else none) else none) else none) | false => (kn (u14.1, u14.2.1, u14.2.2.1, u14.2.2.2.1, u14.2.2.2.2.1, u14.2.2.2.2.2.1, (i64 (u14.2.2.2.2.2.2.1 + 1)), u14.2.2.2.2.2.2.2.1, u14.2.2.2.2.2.2.2.2.1, u14.2.2.2.2.2.2.2.2.2.1, u14.2.2.2.2.2.2.2.2.2.2.1, (u14.2.2.2.2.2.2.2.2.2.2.2.1.map dat0), (u14.2.2.2.2.2.2.2.2.2.2.2.2.1.map dat0), u14.2.2.2.2.2.2.2.2.2.2.2.2.2))) | none => none) | none => none) | false => (kn (u14.1, u14.2.1, u14.2.2.1, u14.2.2.2.1, u14.2.2.2.2.1, u14.2.2.2.2.2.1, (i64 (u14.2.2.2.2.2.2.1 + 1)), u14.2.2.2.2.2.2.2.1, u14.2.2.2.2.2.2.2.2.1, u14.2.2.2.2.2.2.2.2.2.1, u14.2.2.2.2.2.2.2.2.2.2.1, (u14.2.2.2.2.2.2.2.2.2.2.2.1.map dat0), (u14.2.2.2.2.2.2.2.2.2.2.2.2.1.map dat0), u14.2.2.2.2.2.2.2.2.2.2.2.2.2))) | _ => none) | none => none) else none) | none => none) | none => none) else none) | false => (ke (u14.1, u14.2.2.2.1, u14.2.2.2.2.1, u14.2.2.2.2.2.2.2.1, u14.2.2.2.2.2.2.2.2.1, u14.2.2.2.2.2.2.2.2.2.1, u14.2.2.2.2.2.2.2.2.2.2.1, (u14.2.2.2.2.2.2.2.2.2.2.2.1.map dat0), (u14.2.2.2.2.2.2.2.2.2.2.2.2.1.map dat0))))
abbrev zoO (N : Nat) (x : qL × qL × Int × Int × Int × Int × Int × qL × Nat × qL × Nat × qA × qA × qL) : Option ((qL × Int × Int × qL × Nat × qL × Nat × qA × qA)) := (Zb N).L N x
def ZQ (N : Nat) : LSpec where
 X := qL × Int × Int × qL × Nat × qL × Nat × qA × qA
 Y := (qL × Nat × qL × Nat × qA × qA)
 p := fun s => zes s.env.length 58 <| zes s.nin 6 <| Z3 1 (s.at 11) fun a0 => pFn 46 (s.at 0) fun c4 c5 => zQ c4 <| zQ c5 <| zbf 1 0 (s.at 2) <| zbf 2 0 (s.at 3) <| zbf 3 0 (s.at 4) <| jO .i64 (s.at 12) fun a1 => jO .i64 (s.at 13) fun a2 => Z0 (s.bx 0) fun c12 => zk c12 fun c14 c15 => Z3 1 c14 fun a3 => zQ c15 <| Z0 (s.bx 1) fun c16 => zk c16 fun c18 c19 => zhn 4 1 c18 fun a4 => zQ c19 <| Z0 (s.bx 2) fun c20 => zk c20 fun c22 c23 => Z3 25 c22 fun a5 => zQ c23 <| Z0 (s.bx 3) fun c24 => zk c24 fun c26 c27 => zhn 5 1 c26 fun a6 => zQ c27 <| Z0 (s.bx 4) fun a7 => Z0 (s.bx 5) fun a8 => some (a0, a1, a2, a3, a4, a5, a6, a7, a8)
 st := fun u2 => mkS 58 [(11, (AV.list 1 u2.1 none)), (0, (AV.fn (.func 46) [] [])), (2, (AV.ptr 1 0)), (3, (AV.ptr 2 0)), (4, (AV.ptr 3 0)), (12, (qI u2.2.1)), (13, (qI u2.2.2.1))] [(0, [(AV.list 1 u2.2.2.2.1 none)]), (1, [(AV.vs 4 0 u2.2.2.2.2.1 1)]), (2, [(AV.list 25 u2.2.2.2.2.2.1 none)]), (3, [(AV.vs 5 0 u2.2.2.2.2.2.2.1 1)]), (4, u2.2.2.2.2.2.2.2.1), (5, u2.2.2.2.2.2.2.2.2)] (j9 2).1.toks 6
 out := fun y => (.exit 0, mkS 58 [] [(0, [(AV.list 1 y.1 none)]), (1, [(AV.vs 4 0 y.2.1 1)]), (2, [(AV.list 25 y.2.2.1 none)]), (3, [(AV.vs 5 0 y.2.2.2.1 1)]), (4, y.2.2.2.2.1), (5, y.2.2.2.2.2)] (j9 2).2.toks 6)
 b := fun u2 α kn ke => (match (decide (u2.2.2.1 < u2.2.1)) with | true => (if 0 <= u2.2.2.1 then (match u2.1[u2.2.2.1.toNat]? with | some c19 => (match zfU c19 with | some e20 => (if 0 <= u2.2.2.1 /\ u2.2.2.1 < (u2.2.2.2.2.1 : Int) then (match u2.2.2.2.2.2.2.2.1[((0 + u2.2.2.1.toNat) * 1)]? with | some x21 => (match x21 with | .v (.int q23 n22) => (if q23 = .i64 then (match (decide (n22 >= 0)) with | true => (kn (u2.1, u2.2.1, (i64 (u2.2.2.1 + 1)), u2.2.2.2.1, u2.2.2.2.2.1, u2.2.2.2.2.2.1, u2.2.2.2.2.2.2.1, (u2.2.2.2.2.2.2.2.1.map dat0), (u2.2.2.2.2.2.2.2.2.map dat0))) | false => (match ((e20.1.length : Int) == 0) with | true => (kn (u2.1, u2.2.1, (i64 (u2.2.2.1 + 1)), u2.2.2.2.1, u2.2.2.2.2.1, u2.2.2.2.2.2.1, u2.2.2.2.2.2.2.1, (u2.2.2.2.2.2.2.2.1.map dat0), (u2.2.2.2.2.2.2.2.2.map dat0))) | false => (match zoO N (u2.1, u2.2.2.2.2.2.1, u2.2.2.1, u2.2.1, u2.2.2.1, (u2.2.2.2.2.2.1.length : Int), 0, u2.2.2.2.1, u2.2.2.2.2.1, u2.2.2.2.2.2.1, u2.2.2.2.2.2.2.1, (u2.2.2.2.2.2.2.2.1.map dat0), (u2.2.2.2.2.2.2.2.2.map dat0), e20.1) with | some y24 => (kn (y24.1, y24.2.1, (i64 (y24.2.2.1 + 1)), y24.2.2.2.1, y24.2.2.2.2.1, y24.2.2.2.2.2.1, y24.2.2.2.2.2.2.1, (y24.2.2.2.2.2.2.2.1.map dat0), (y24.2.2.2.2.2.2.2.2.map dat0))) | none => none))) else none) | _ => none) | none => none) else none) | none => none) | none => none) else none) | false => (ke (u2.2.2.2.1, u2.2.2.2.2.1, u2.2.2.2.2.2.1, u2.2.2.2.2.2.2.1, (u2.2.2.2.2.2.2.2.1.map dat0), (u2.2.2.2.2.2.2.2.2.map dat0))))
abbrev zwE (N : Nat) (x : qL × Int × Int × qL × Nat × qL × Nat × qA × qA) : Option ((qL × Nat × qL × Nat × qA × qA)) := (ZQ N).L N x
def zdX (N : Nat) : FSpec where
 X := qL × Nat × qL × Nat × qA × qA
 Y := qL × Nat × qL × Nat × qA × qA
 ash := [[none], [none], [none], [none], [none]]
 bsh := [[some 1], [none], [some 25], [none], [], []]
 S := ⟨[], [[some 1], [some 2000001], [some 25], [some 2000001], [], []], [], [], [4, 5]⟩
 pat := fun a b => zk a fun v1 c2 => pFn 46 v1 fun c3 c4 => zQ c3 <| zQ c4 <| zk c2 fun v5 c6 => zbf 0 0 v5 <| zk c6 fun v7 c8 => zbf 1 0 v7 <| zk c8 fun v9 c10 => zbf 2 0 v9 <| zk c10 fun v11 c12 => zbf 3 0 v11 <| zQ c12 <| zk b fun v13 c14 => zk v13 fun c15 c16 => Z3 1 c15 fun a0 => zQ c16 <| zk c14 fun v17 c18 => zk v17 fun c19 c20 => zhn 4 1 c19 fun a1 => zQ c20 <| zk c18 fun v21 c22 => zk v21 fun c23 c24 => Z3 25 c23 fun a2 => zQ c24 <| zk c22 fun v25 c26 => zk v25 fun c27 c28 => zhn 5 1 c27 fun a3 => zQ c28 <| zk c26 fun a4 c29 => zk c29 fun a5 c30 => zQ c30 <| some (a0, a1, a2, a3, a4, a5)
 args := fun x => [(AV.fn (.func 46) [] []), (AV.ptr 0 0), (AV.ptr 1 0), (AV.ptr 2 0), (AV.ptr 3 0)]
 bs := fun x => [[(AV.list 1 x.1 none)], [(AV.vs 4 0 x.2.1 1)], [(AV.list 25 x.2.2.1 none)], [(AV.vs 5 0 x.2.2.2.1 1)], x.2.2.2.2.1, x.2.2.2.2.2]
 ret := fun y => ⟨(AV.tup []), [[(AV.list 1 y.1 none)], [(AV.vs 4 0 y.2.1 1)], [(AV.list 25 y.2.2.1 none)], [(AV.vs 5 0 y.2.2.2.1 1)], y.2.2.2.2.1, y.2.2.2.2.2], none, [], [], [4, 5], none⟩
 t := fun x α k => (match zwE N (x.1, (x.1.length : Int), 0, x.1, x.2.1, x.2.2.1, x.2.2.2.1, (x.2.2.2.2.1.map dat0), (x.2.2.2.2.2.map dat0)) with | some y25 => (k (y25.1, y25.2.1, y25.2.2.1, y25.2.2.2.1, (y25.2.2.2.2.1.map dat0), (y25.2.2.2.2.2.map dat0))) | none => none)
abbrev zy7 (N : Nat) (x : qL × Nat × qL × Nat × qA × qA) : Option (qL × Nat × qL × Nat × qA × qA) := (zdX N).d x
def zbM (N : Nat) : List (Nat × LSpec) := [(2, ZQ N), (14, Zb N)]
def zfd : Code := Tryd.f45.body.getD .skip
theorem zl0 (N : Nat) : Par (Zb N).b := by
 intro x α β kn ke kn' ke' r r' h h1 h2
 revert h
 dsimp only [Zb]
 (repeat' (first | (with_reducible refine ze ?_ ?_) | split)) <;> intro h <;> first | exact h1 _ h | exact h2 _ h | cases h
theorem zj8 (N : Nat) : jh (zn qP) (zyM N) j9 N (zbM N) 14 zfd (Zb N) := fun x α kn ke => by kernel_rfl
theorem znt (N : Nat) (s : AS) (x : (Zb N).X) (hc : s = ZM (j9 14).1 s) (h : (Zb N).p s = some x) : s = (Zb N).st x := by
 replace h : zes _ _ _ = some x := h
 obtain ⟨h1, g0⟩ := jA h
 obtain ⟨h2, g1⟩ := jA g0; clear g0
 obtain ⟨a0, h3, g2⟩ := zr g1; clear g1
 obtain ⟨a1, h4, g3⟩ := zr g2; clear g2
 obtain ⟨c5, c6, h7, g4⟩ := zap g3; clear g3
 obtain ⟨rfl, g5⟩ := zg g4; clear g4
 obtain ⟨rfl, g6⟩ := zg g5; clear g5
 obtain ⟨h8, g7⟩ := Zc g6; clear g6
 obtain ⟨h9, g8⟩ := Zc g7; clear g7
 obtain ⟨h10, g9⟩ := Zc g8; clear g8
 obtain ⟨a2, h11, g10⟩ := zC g9; clear g9
 obtain ⟨h12, g11⟩ := Zc g10; clear g10
 obtain ⟨a3, h13, g12⟩ := zC g11; clear g11
 obtain ⟨a4, h14, g13⟩ := zC g12; clear g12
 obtain ⟨a5, h15, g14⟩ := zC g13; clear g13
 obtain ⟨a6, h16, g15⟩ := zC g14; clear g14
 obtain ⟨c17, h18, g16⟩ := zO g15; clear g15
 obtain ⟨c19, c20, rfl, g17⟩ := zb g16; clear g16
 obtain ⟨a7, rfl, g18⟩ := zr g17; clear g17
 obtain ⟨rfl, g19⟩ := zg g18; clear g18
 obtain ⟨c21, h22, g20⟩ := zO g19; clear g19
 obtain ⟨c23, c24, rfl, g21⟩ := zb g20; clear g20
 obtain ⟨a8, rfl, g22⟩ := jn g21; clear g21
 obtain ⟨rfl, g23⟩ := zg g22; clear g22
 obtain ⟨c25, h26, g24⟩ := zO g23; clear g23
 obtain ⟨c27, c28, rfl, g25⟩ := zb g24; clear g24
 obtain ⟨a9, rfl, g26⟩ := zr g25; clear g25
 obtain ⟨rfl, g27⟩ := zg g26; clear g26
 obtain ⟨c29, h30, g28⟩ := zO g27; clear g27
 obtain ⟨c31, c32, rfl, g29⟩ := zb g28; clear g28
 obtain ⟨a10, rfl, g30⟩ := jn g29; clear g29
 obtain ⟨rfl, g31⟩ := zg g30; clear g30
 obtain ⟨a11, h33, g32⟩ := zO g31; clear g31
 obtain ⟨a12, h34, g33⟩ := zO g32; clear g32
 obtain ⟨c35, h36, g34⟩ := zO g33; clear g33
 obtain ⟨c37, c38, rfl, g35⟩ := zb g34; clear g34
 obtain ⟨a13, rfl, g36⟩ := zr g35; clear g35
 obtain ⟨rfl, g37⟩ := zg g36; clear g36
 clear h
 cases g37
 exact JJ hc h1 h2 rfl rfl rfl rfl ⟨h3, h4, h7, h8, h9, h10, h11, h12, h13, h14, h15, h16, trivial⟩ ⟨h18, h22, h26, h30, h33, h34, h36, trivial⟩
theorem zei (N : Nat) : ZK qP j9 N (zbM N) 14 (zc 14 zfd) :=
 zD (zd qP) (zi _) zl j9 N (zbM N) 14 zfd (l := []) (by kernel_rfl) (by kernel_rfl) an (Zb N) rfl (znt N) (fun _ => rfl) (zj8 N) (zl0 N)
theorem zsk (N : Nat) : Par (ZQ N).b := by
 intro x α β kn ke kn' ke' r r' h h1 h2
 revert h
 dsimp only [ZQ]
 (repeat' (first | (with_reducible refine ze ?_ ?_) | split)) <;> intro h <;> first | exact h1 _ h | exact h2 _ h | cases h
theorem zpC (N : Nat) : jh (zn qP) (zyM N) j9 N (zbM N) 2 zfd (ZQ N) := fun x α kn ke => by kernel_rfl
theorem zs2 (N : Nat) (s : AS) (x : (ZQ N).X) (hc : s = ZM (j9 2).1 s) (h : (ZQ N).p s = some x) : s = (ZQ N).st x := by
 replace h : zes _ _ _ = some x := h
 obtain ⟨h1, g0⟩ := jA h
 obtain ⟨h2, g1⟩ := jA g0; clear g0
 obtain ⟨a0, h3, g2⟩ := zr g1; clear g1
 obtain ⟨c4, c5, h6, g3⟩ := zap g2; clear g2
 obtain ⟨rfl, g4⟩ := zg g3; clear g3
 obtain ⟨rfl, g5⟩ := zg g4; clear g4
 obtain ⟨h7, g6⟩ := Zc g5; clear g5
 obtain ⟨h8, g7⟩ := Zc g6; clear g6
 obtain ⟨h9, g8⟩ := Zc g7; clear g7
 obtain ⟨a1, h10, g9⟩ := zC g8; clear g8
 obtain ⟨a2, h11, g10⟩ := zC g9; clear g9
 obtain ⟨c12, h13, g11⟩ := zO g10; clear g10
 obtain ⟨c14, c15, rfl, g12⟩ := zb g11; clear g11
 obtain ⟨a3, rfl, g13⟩ := zr g12; clear g12
 obtain ⟨rfl, g14⟩ := zg g13; clear g13
 obtain ⟨c16, h17, g15⟩ := zO g14; clear g14
 obtain ⟨c18, c19, rfl, g16⟩ := zb g15; clear g15
 obtain ⟨a4, rfl, g17⟩ := jn g16; clear g16
 obtain ⟨rfl, g18⟩ := zg g17; clear g17
 obtain ⟨c20, h21, g19⟩ := zO g18; clear g18
 obtain ⟨c22, c23, rfl, g20⟩ := zb g19; clear g19
 obtain ⟨a5, rfl, g21⟩ := zr g20; clear g20
 obtain ⟨rfl, g22⟩ := zg g21; clear g21
 obtain ⟨c24, h25, g23⟩ := zO g22; clear g22
 obtain ⟨c26, c27, rfl, g24⟩ := zb g23; clear g23
 obtain ⟨a6, rfl, g25⟩ := jn g24; clear g24
 obtain ⟨rfl, g26⟩ := zg g25; clear g25
 obtain ⟨a7, h28, g27⟩ := zO g26; clear g26
 obtain ⟨a8, h29, g28⟩ := zO g27; clear g27
 clear h
 cases g28
 exact JJ hc h1 h2 rfl rfl rfl rfl ⟨h3, h6, h7, h8, h9, h10, h11, trivial⟩ ⟨h13, h17, h21, h25, h28, h29, trivial⟩
theorem zqq (N : Nat) : ZK qP j9 N (zbM N) 2 (zc 2 zfd) :=
 zD (zd qP) (zi _) zl j9 N (zbM N) 2 zfd (l := [(14, zc 14 zfd)]) (by kernel_rfl) (by kernel_rfl) (al (zei N) an) (ZQ N) rfl (zs2 N) (fun _ => rfl) (zpC N) (zsk N)
theorem zu1 (N : Nat) : Zd (zdX N).t := by
 intro x α β k k' r r' h h1
 revert h
 dsimp only [zdX]
 (repeat' (first | (with_reducible refine ze ?_ ?_) | split)) <;> intro h <;> first | exact h1 _ h | cases h
theorem zsA (N : Nat) : Zh (zn qP) (zyM N) j9 (lam N (zbM N)) Tryd.f45 (zdX N) := fun x => by kernel_rfl
theorem zyj (N : Nat) (a : List AV) (b : qL) (x : (zdX N).X) (h : (zdX N).pat a b = some x) : a = (zdX N).args x /\ b = (zdX N).bs x := by
 obtain ⟨v1, c2, rfl, g0⟩ := zb (show zk _ _ = some x from h)
 obtain ⟨c3, c4, rfl, g1⟩ := zap g0; clear g0
 obtain ⟨rfl, g2⟩ := zg g1; clear g1
 obtain ⟨rfl, g3⟩ := zg g2; clear g2
 obtain ⟨v5, c6, rfl, g4⟩ := zb g3; clear g3
 obtain ⟨rfl, g5⟩ := Zc g4; clear g4
 obtain ⟨v7, c8, rfl, g6⟩ := zb g5; clear g5
 obtain ⟨rfl, g7⟩ := Zc g6; clear g6
 obtain ⟨v9, c10, rfl, g8⟩ := zb g7; clear g7
 obtain ⟨rfl, g9⟩ := Zc g8; clear g8
 obtain ⟨v11, c12, rfl, g10⟩ := zb g9; clear g9
 obtain ⟨rfl, g11⟩ := Zc g10; clear g10
 obtain ⟨rfl, g12⟩ := zg g11; clear g11
 obtain ⟨v13, c14, rfl, g13⟩ := zb g12; clear g12
 obtain ⟨c15, c16, rfl, g14⟩ := zb g13; clear g13
 obtain ⟨a0, rfl, g15⟩ := zr g14; clear g14
 obtain ⟨rfl, g16⟩ := zg g15; clear g15
 obtain ⟨v17, c18, rfl, g17⟩ := zb g16; clear g16
 obtain ⟨c19, c20, rfl, g18⟩ := zb g17; clear g17
 obtain ⟨a1, rfl, g19⟩ := jn g18; clear g18
 obtain ⟨rfl, g20⟩ := zg g19; clear g19
 obtain ⟨v21, c22, rfl, g21⟩ := zb g20; clear g20
 obtain ⟨c23, c24, rfl, g22⟩ := zb g21; clear g21
 obtain ⟨a2, rfl, g23⟩ := zr g22; clear g22
 obtain ⟨rfl, g24⟩ := zg g23; clear g23
 obtain ⟨v25, c26, rfl, g25⟩ := zb g24; clear g24
 obtain ⟨c27, c28, rfl, g26⟩ := zb g25; clear g25
 obtain ⟨a3, rfl, g27⟩ := jn g26; clear g26
 obtain ⟨rfl, g28⟩ := zg g27; clear g27
 obtain ⟨a4, c29, rfl, g29⟩ := zb g28; clear g28
 obtain ⟨a5, c30, rfl, g30⟩ := zb g29; clear g29
 obtain ⟨rfl, g31⟩ := zg g30; clear g30
 clear h
 cases g31
 exact ⟨rfl, rfl⟩
def zCS (N : Nat) : Ent qP := zA (zd qP) (zi _) zl 45 Tryd.f45 Tryd.func45 rfl j9 (lam N (zbM N)) (zm (l := [(2, zc 2 zfd), (14, zc 14 zfd)]) (al (zqq N) (al (zei N) an)) (by kernel_rfl)) (zdX N) (fun _ => ⟨rfl, rfl⟩) (zsA N) (zyj N) (zu1 N)
def zbz : Nat -> Keep × Keep := anL [(4, ⟨[3, 7, 8], [], [3], [(0, 9)], [], [], [], [], false, none, []⟩, qK [4] [] [])]
def zBY (N : Nat) : GamK := gam (P := qP) []
def Z5 (N : Nat) : LSpec where
 X := qL × Int × Int × RT1
 Y := (Int) ⊕ (Unit)
 p := fun s => rdS 19 0 [(0, .lst 9), (3, .ptr 3 0), (7, .int .i64), (8, .int .i64)] [(3, .row RK1)] s fun ⟨a0, _, a1, a2, _⟩ ⟨a3, _⟩ => (a0, a1, a2, a3)
 st := fun u4 => mkS 19 [(0, (AV.list 9 u4.1 none)), (3, (AV.ptr 3 0)), (7, (qI u4.2.1)), (8, (qI u4.2.2.1))] [(3, (zq u4.2.2.2))] (zbz 4).1.toks 0
 out := fun y => match y with
  | .inl y => (.ret, mkS 19 [(4, (qI y))] [] (zbz 4).2.toks 0)
  | .inr y => (.exit 0, mkS 19 [] [] (zbz 4).2.toks 0)
 b := fun u4 α kn ke => (match (decide (u4.2.2.1 < u4.2.1)) with | true => (if 0 <= u4.2.2.1 then (match u4.1[u4.2.2.1.toNat]? with | some c1 => (match Jv c1 with | some e2 => (match (((u4.2.2.2.1 == e2.1) && ((u4.2.2.2.2.1 == e2.2.1) && ((u4.2.2.2.2.2.1 == e2.2.2.1) && ((u4.2.2.2.2.2.2.1 == e2.2.2.2.1) && true)))) && ((u4.2.2.2.2.2.2.2.1 == e2.2.2.2.2.1) && ((u4.2.2.2.2.2.2.2.2.1 == e2.2.2.2.2.2.1) && ((u4.2.2.2.2.2.2.2.2.2.1 == e2.2.2.2.2.2.2.1) && ((u4.2.2.2.2.2.2.2.2.2.2.1 == e2.2.2.2.2.2.2.2.1) && ((u4.2.2.2.2.2.2.2.2.2.2.2.1 == e2.2.2.2.2.2.2.2.2.1) && true)))))) with | true => (ke (.inl u4.2.2.1)) | false => (kn (u4.1, u4.2.1, (i64 (u4.2.2.1 + 1)), u4.2.2.2))) | none => none) | none => none) else none) | false => (ke (.inr ())))
abbrev zxq (N : Nat) (x : qL × Int × Int × RT1) : Option ((Int) ⊕ (Unit)) := (Z5 N).L N x
def zkx (N : Nat) : FSpec where
 X := qL × RT1
 Y := Int
 ash := [[some 9], [none, none, none, none, none, none, none, none, none]]
 S := ⟨[[none]], [], [], [], []⟩
 pat := fun a b => rdA [.lst 9, .agg RK1] [] a b fun ⟨a0, a1, _⟩ _ => (a0, a1)
 args := fun x => [(AV.list 9 x.1 none), (AV.agg (zq x.2))]
 ret := fun y => ⟨(AV.v (.int .i64 y)), [], none, [], [], [], none⟩
 t := fun x α k => (match zxq N (x.1, (x.1.length : Int), 0, x.2) with | some y3 => (match y3 with | .inl z4 => (k z4) | .inr z5 => (k (-1))) | none => none)
abbrev zAu (N : Nat) (x : qL × RT1) : Option (Int) := (zkx N).d x
def zg2 (N : Nat) : List (Nat × LSpec) := [(4, Z5 N)]
def zsc : Code := Tryd.f95.body.getD .skip
theorem ztk (N : Nat) : Par (Z5 N).b := by
 intro x α β kn ke kn' ke' r r' h h1 h2
 revert h
 dsimp only [Z5]
 (repeat' (first | (with_reducible refine ze ?_ ?_) | split)) <;> intro h <;> first | exact h1 _ h | exact h2 _ h | cases h
theorem zpO (N : Nat) : jh (zn qP) (zBY N) zbz N (zg2 N) 4 zsc (Z5 N) := fun x α kn ke => by kernel_rfl
theorem zmM (N : Nat) : ZK qP zbz N (zg2 N) 4 (zc 4 zsc) :=
 zD (zd qP) (zi _) zl zbz N (zg2 N) 4 zsc (l := []) (by kernel_rfl) (by kernel_rfl) an (Z5 N) rfl (fun s x hc h => by dsimp only [Z5] at h; exact zJ hc h (fun _ _ => rfl) rfl rfl rfl) (fun _ => rfl) (zpO N) (ztk N)
theorem ztL (N : Nat) : Zd (zkx N).t := by
 intro x α β k k' r r' h h1
 revert h
 dsimp only [zkx]
 (repeat' (first | (with_reducible refine ze ?_ ?_) | split)) <;> intro h <;> first | exact h1 _ h | cases h
theorem zvh (N : Nat) : Zh (zn qP) (zBY N) zbz (lam N (zg2 N)) Tryd.f95 (zkx N) := fun x => by kernel_rfl
def zCX (N : Nat) : Ent qP := zA (zd qP) (zi _) zl 95 Tryd.f95 Tryd.func95 rfl zbz (lam N (zg2 N)) (zm (l := [(4, zc 4 zsc)]) (al (zmM N) an) (by kernel_rfl)) (zkx N) (fun _ => ⟨rfl, rfl⟩) (zvh N) (fun _ _ _ h => zw h (fun _ _ => rfl) (fun _ _ => rfl)) (ztL N)
def zxw : Nat -> Keep × Keep := anL []
def zDL (N : Nat) : GamK := gam (P := qP) [zCX N]
def zkq (N : Nat) : FSpec where
 X := qL × RT1
 Y := Bool
 ash := [[some 9], [none, none, none, none, none, none, none, none, none]]
 S := ⟨[[none]], [], [], [], []⟩
 pat := fun a b => rdA [.lst 9, .agg RK1] [] a b fun ⟨a0, a1, _⟩ _ => (a0, a1)
 args := fun x => [(AV.list 9 x.1 none), (AV.agg (zq x.2))]
 ret := fun y => ⟨(AV.v (.bool y)), [], none, [], [], [], none⟩
 t := fun x α k => (match zAu N x with | some y1 => (k (decide (y1 >= 0))) | none => none)
abbrev zy3 (N : Nat) (x : qL × RT1) : Option (Bool) := (zkq N).d x
theorem zsa (N : Nat) : Zd (zkq N).t := by
 intro x α β k k' r r' h h1
 revert h
 dsimp only [zkq]
 (repeat' (first | (with_reducible refine ze ?_ ?_) | split)) <;> intro h <;> first | exact h1 _ h | cases h
theorem zsN (N : Nat) : Zh (zn qP) (zDL N) zxw (lam N []) Tryd.f71 (zkq N) := fun x => by kernel_rfl
def zCE (N : Nat) : Ent qP := zA (zd qP) (zi _) zl 71 Tryd.f71 Tryd.func71 rfl zxw (lam N []) (zm (l := []) an (by kernel_rfl)) (zkq N) (fun _ => ⟨rfl, rfl⟩) (zsN N) (fun _ _ _ h => zw h (fun _ _ => rfl) (fun _ _ => rfl)) (zsa N)
def zxj : Nat -> Keep × Keep := anL []
def zEa (N : Nat) : GamK := gam (P := qP) [zCE N]
def zkF (N : Nat) : FSpec where
 X := RT1 × RT0
 Y := Bool × RT0
 ash := [[none, none, none, none, none, none, none, none, none], [none]]
 bsh := [[none, none, none, none, none, none, none, none, none, some 9, none, none, none, none, none, none, none, none, none, none, none, none, none, none, none]]
 S := ⟨[[none]], [[]], [], [], []⟩
 pat := fun a b => rdA [.agg RK1, .ptr 0 0] [.row RK0] a b fun ⟨a0, _, _⟩ ⟨a1, _⟩ => (a0, a1)
 args := fun x => [(AV.agg (zq x.1)), (AV.ptr 0 0)]
 bs := fun x => [(zB x.2)]
 ret := fun y => ⟨(AV.v (.bool y.1)), [(zB y.2)], none, [], [], [], none⟩
 t := fun x α k => (match zy3 N (x.2.2.2.2.2.2.2.2.2.2.1, x.1) with | some y1 => (k (y1, x.2)) | none => none)
abbrev zy4 (N : Nat) (x : RT1 × RT0) : Option (Bool × RT0) := (zkF N).d x
theorem zqR (N : Nat) : Zd (zkF N).t := by
 intro x α β k k' r r' h h1
 revert h
 dsimp only [zkF]
 (repeat' (first | (with_reducible refine ze ?_ ?_) | split)) <;> intro h <;> first | exact h1 _ h | cases h
theorem zsn (N : Nat) : Zh (zn qP) (zEa N) zxj (lam N []) Tryd.f70 (zkF N) := fun x => by kernel_rfl
def zDp (N : Nat) : Ent qP := zA (zd qP) (zi _) zl 70 Tryd.f70 Tryd.func70 rfl zxj (lam N []) (zm (l := []) an (by kernel_rfl)) (zkF N) (fun _ => ⟨rfl, rfl⟩) (zsn N) (fun _ _ _ h => zw h (fun _ _ => rfl) (fun _ _ => rfl)) (zqR N)
def zb4 : Nat -> Keep × Keep := anL [(4, ⟨[1, 7, 8], [], [0], [(0, 9)], [], [], [], [], false, none, []⟩, qK [4] [] [0])]
def zAA (N : Nat) : GamK := gam (P := qP) [zDp N]
def Z6 (N : Nat) : LSpec where
 X := qL × Int × Int × RT0
 Y := (Int × RT0) ⊕ (RT0)
 p := fun s => rdS 19 1 [(0, .lst 9), (1, .fn1 70 0), (7, .int .i64), (8, .int .i64)] [(0, .row RK0)] s fun ⟨a0, _, a1, a2, _⟩ ⟨a3, _⟩ => (a0, a1, a2, a3)
 st := fun u4 => mkS 19 [(0, (AV.list 9 u4.1 none)), (1, (AV.fn (.func 70) [] [(AV.ptr 0 0)])), (7, (qI u4.2.1)), (8, (qI u4.2.2.1))] [(0, (zB u4.2.2.2))] (zb4 4).1.toks 1
 out := fun y => match y with
  | .inl y => (.ret, mkS 19 [(4, (qI y.1))] [(0, (zB y.2))] (zb4 4).2.toks 1)
  | .inr y => (.exit 0, mkS 19 [] [(0, (zB y))] (zb4 4).2.toks 1)
 b := fun u4 α kn ke => (match (decide (u4.2.2.1 < u4.2.1)) with | true => (if 0 <= u4.2.2.1 then (match u4.1[u4.2.2.1.toNat]? with | some c4 => (match Jv c4 with | some e5 => (match zy4 N (e5, u4.2.2.2) with | some y6 => (match y6.1 with | true => (ke (.inl (u4.2.2.1, y6.2))) | false => (kn (u4.1, u4.2.1, (i64 (u4.2.2.1 + 1)), y6.2))) | none => none) | none => none) | none => none) else none) | false => (ke (.inr u4.2.2.2)))
abbrev zwo (N : Nat) (x : qL × Int × Int × RT0) : Option ((Int × RT0) ⊕ (RT0)) := (Z6 N).L N x
def zjV (N : Nat) : FSpec where
 X := qL × RT0
 Y := Int × RT0
 ash := [[some 9], [none]]
 bsh := [[none, none, none, none, none, none, none, none, none, some 9, none, none, none, none, none, none, none, none, none, none, none, none, none, none, none]]
 S := ⟨[[none]], [[]], [], [], []⟩
 pat := fun a b => rdA [.lst 9, .fn1 70 0] [.row RK0] a b fun ⟨a0, _, _⟩ ⟨a1, _⟩ => (a0, a1)
 args := fun x => [(AV.list 9 x.1 none), (AV.fn (.func 70) [] [(AV.ptr 0 0)])]
 bs := fun x => [(zB x.2)]
 ret := fun y => ⟨(AV.v (.int .i64 y.1)), [(zB y.2)], none, [], [], [], none⟩
 t := fun x α k => (match zwo N (x.1, (x.1.length : Int), 0, x.2) with | some y7 => (match y7 with | .inl z8 => (k z8) | .inr z9 => (k ((-1), z9))) | none => none)
abbrev zCa (N : Nat) (x : qL × RT0) : Option (Int × RT0) := (zjV N).d x
def zgS (N : Nat) : List (Nat × LSpec) := [(4, Z6 N)]
def zqM : Code := Tryd.f94.body.getD .skip
theorem zvF (N : Nat) : Par (Z6 N).b := by
 intro x α β kn ke kn' ke' r r' h h1 h2
 revert h
 dsimp only [Z6]
 (repeat' (first | (with_reducible refine ze ?_ ?_) | split)) <;> intro h <;> first | exact h1 _ h | exact h2 _ h | cases h
theorem znH (N : Nat) : jh (zn qP) (zAA N) zb4 N (zgS N) 4 zqM (Z6 N) := fun x α kn ke => by kernel_rfl
theorem zpP (N : Nat) : ZK qP zb4 N (zgS N) 4 (zc 4 zqM) :=
 zD (zd qP) (zi _) zl zb4 N (zgS N) 4 zqM (l := []) (by kernel_rfl) (by kernel_rfl) an (Z6 N) rfl (fun s x hc h => by dsimp only [Z6] at h; exact zJ hc h (fun _ _ => rfl) rfl rfl rfl) (fun _ => rfl) (znH N) (zvF N)
theorem zvd (N : Nat) : Zd (zjV N).t := by
 intro x α β k k' r r' h h1
 revert h
 dsimp only [zjV]
 (repeat' (first | (with_reducible refine ze ?_ ?_) | split)) <;> intro h <;> first | exact h1 _ h | cases h
theorem zvx (N : Nat) : Zh (zn qP) (zAA N) zb4 (lam N (zgS N)) Tryd.f94 (zjV N) := fun x => by kernel_rfl
def zDc (N : Nat) : Ent qP := zA (zd qP) (zi _) zl 94 Tryd.f94 Tryd.func94 rfl zb4 (lam N (zgS N)) (zm (l := [(4, zc 4 zqM)]) (al (zpP N) an) (by kernel_rfl)) (zjV N) (fun _ => ⟨rfl, rfl⟩) (zvx N) (fun _ _ _ h => zw h (fun _ _ => rfl) (fun _ _ => rfl)) (zvd N)
def zwX : Nat -> Keep × Keep := anL []
def zDO (N : Nat) : GamK := gam (P := qP) [zDc N]
def zjY (N : Nat) : FSpec where
 X := qL × RT0
 Y := Bool × RT0
 ash := [[some 9], [none]]
 bsh := [[none, none, none, none, none, none, none, none, none, some 9, none, none, none, none, none, none, none, none, none, none, none, none, none, none, none]]
 S := ⟨[[none]], [[none, none, none, none, none, none, none, none, none, some 9, none, none, none, none, none, none, none, none, none, none, none, none, none, none, none]], [], [], []⟩
 pat := fun a b => rdA [.lst 9, .fn1 70 0] [.row RK0] a b fun ⟨a0, _, _⟩ ⟨a1, _⟩ => (a0, a1)
 args := fun x => [(AV.list 9 x.1 none), (AV.fn (.func 70) [] [(AV.ptr 0 0)])]
 bs := fun x => [(zB x.2)]
 ret := fun y => ⟨(AV.v (.bool y.1)), [(zB y.2)], none, [], [], [], none⟩
 t := fun x α k => (match zCa N x with | some y1 => (k ((decide (y1.1 >= 0)), y1.2)) | none => none)
abbrev zB7 (N : Nat) (x : qL × RT0) : Option (Bool × RT0) := (zjY N).d x
theorem zsU (N : Nat) : Zd (zjY N).t := by
 intro x α β k k' r r' h h1
 revert h
 dsimp only [zjY]
 (repeat' (first | (with_reducible refine ze ?_ ?_) | split)) <;> intro h <;> first | exact h1 _ h | cases h
theorem zqH (N : Nat) : Zh (zn qP) (zDO N) zwX (lam N []) Tryd.f69 (zjY N) := fun x => by kernel_rfl
def zCA (N : Nat) : Ent qP := zA (zd qP) (zi _) zl 69 Tryd.f69 Tryd.func69 rfl zwX (lam N []) (zm (l := []) an (by kernel_rfl)) (zjY N) (fun _ => ⟨rfl, rfl⟩) (zqH N) (fun _ _ _ h => zw h (fun _ _ => rfl) (fun _ _ => rfl)) (zsU N)
def zv0 : Nat -> Keep × Keep := anL []
def zDY (N : Nat) : GamK := gam (P := qP) [zCA N]
def zkP (N : Nat) : FSpec where
 X := RT0 × RT0
 Y := Bool
 ash := [[none, none, none, none, none, none, none, none, none, some 9, none, none, none, none, none, none, none, none, none, none, none, none, none, none, none], [none, none, none, none, none, none, none, none, none, some 9, none, none, none, none, none, none, none, none, none, none, none, none, none, none, none]]
 S := ⟨[[none]], [], [], [], []⟩
 pat := fun a b => rdA [.agg RK0, .agg RK0] [] a b fun ⟨a0, a1, _⟩ _ => (a0, a1)
 args := fun x => [(AV.agg (zB x.1)), (AV.agg (zB x.2))]
 ret := fun y => ⟨(AV.v (.bool y)), [], none, [], [], [], none⟩
 t := fun x α k => (match zB7 N (x.1.2.2.2.2.2.2.2.2.2.1, x.2) with | some y1 => (k y1.1) | none => none)
abbrev znJ (N : Nat) (x : RT0 × RT0) : Option (Bool) := (zkP N).d x
theorem zre (N : Nat) : Zd (zkP N).t := by
 intro x α β k k' r r' h h1
 revert h
 dsimp only [zkP]
 (repeat' (first | (with_reducible refine ze ?_ ?_) | split)) <;> intro h <;> first | exact h1 _ h | cases h
theorem zr9 (N : Nat) : Zh (zn qP) (zDY N) zv0 (lam N []) Tryd.f47 (zkP N) := fun x => by kernel_rfl
def zDD (N : Nat) : Ent qP := zA (zd qP) (zi _) zl 47 Tryd.f47 Tryd.func47 rfl zv0 (lam N []) (zm (l := []) an (by kernel_rfl)) (zkP N) (fun _ => ⟨rfl, rfl⟩) (zr9 N) (fun _ _ _ h => zw h (fun _ _ => rfl) (fun _ _ => rfl)) (zre N)
def je : Nat -> Keep × Keep := anL [(2, ⟨[0, 2, 3, 4, 12, 13], [], [0, 1, 2, 3, 4, 5], [(11, 1)], [], [], [], [4, 5], false, none, []⟩, ⟨[], [], [0, 1, 2, 3, 4, 5], [], [], [], [], [4, 5], false, none, []⟩), (14, ⟨[0, 2, 3, 4, 6, 7, 12, 13, 30, 31], [], [0, 1, 2, 3, 4, 5, 7], [(11, 1), (29, 25)], [], [], [], [4, 5], false, none, []⟩, ⟨[0, 2, 3, 4, 12, 13], [], [0, 1, 2, 3, 4, 5], [(11, 1)], [], [], [], [4, 5], false, none, []⟩)]
def znz (N : Nat) : GamK := gam (P := qP) [zvq N, zDD N]
def zV (N : Nat) : LSpec where
 X := qL × qL × Int × Int × Int × Int × Int × qL × Nat × qL × Nat × qA × qA × qL
 Y := (qL × Int × Int × qL × Nat × qL × Nat × qA × qA)
 p := fun s => zes s.env.length 58 <| zes s.nin 6 <| Z3 1 (s.at 11) fun a0 => Z3 25 (s.at 29) fun a1 => pFn 47 (s.at 0) fun c5 c6 => zQ c5 <| zQ c6 <| zbf 1 0 (s.at 2) <| zbf 2 0 (s.at 3) <| zbf 3 0 (s.at 4) <| jO .i64 (s.at 6) fun a2 => zbf 7 0 (s.at 7) <| jO .i64 (s.at 12) fun a3 => jO .i64 (s.at 13) fun a4 => jO .i64 (s.at 30) fun a5 => jO .i64 (s.at 31) fun a6 => Z0 (s.bx 0) fun c17 => zk c17 fun c19 c20 => Z3 1 c19 fun a7 => zQ c20 <| Z0 (s.bx 1) fun c21 => zk c21 fun c23 c24 => zhn 4 1 c23 fun a8 => zQ c24 <| Z0 (s.bx 2) fun c25 => zk c25 fun c27 c28 => Z3 25 c27 fun a9 => zQ c28 <| Z0 (s.bx 3) fun c29 => zk c29 fun c31 c32 => zhn 5 1 c31 fun a10 => zQ c32 <| Z0 (s.bx 4) fun a11 => Z0 (s.bx 5) fun a12 => Z0 (s.bx 7) fun c35 => zk c35 fun c37 c38 => Z3 29 c37 fun a13 => zQ c38 <| some (a0, a1, a2, a3, a4, a5, a6, a7, a8, a9, a10, a11, a12, a13)
 st := fun u14 => mkS 58 [(11, (AV.list 1 u14.1 none)), (29, (AV.list 25 u14.2.1 none)), (0, (AV.fn (.func 47) [] [])), (2, (AV.ptr 1 0)), (3, (AV.ptr 2 0)), (4, (AV.ptr 3 0)), (6, (qI u14.2.2.1)), (7, (AV.ptr 7 0)), (12, (qI u14.2.2.2.1)), (13, (qI u14.2.2.2.2.1)), (30, (qI u14.2.2.2.2.2.1)), (31, (qI u14.2.2.2.2.2.2.1))] [(0, [(AV.list 1 u14.2.2.2.2.2.2.2.1 none)]), (1, [(AV.vs 4 0 u14.2.2.2.2.2.2.2.2.1 1)]), (2, [(AV.list 25 u14.2.2.2.2.2.2.2.2.2.1 none)]), (3, [(AV.vs 5 0 u14.2.2.2.2.2.2.2.2.2.2.1 1)]), (4, u14.2.2.2.2.2.2.2.2.2.2.2.1), (5, u14.2.2.2.2.2.2.2.2.2.2.2.2.1), (7, [(AV.list 29 u14.2.2.2.2.2.2.2.2.2.2.2.2.2 none)])] (je 14).1.toks 6
 out := fun y => (.exit 2, mkS 58 [(11, (AV.list 1 y.1 none)), (0, (AV.fn (.func 47) [] [])), (2, (AV.ptr 1 0)), (3, (AV.ptr 2 0)), (4, (AV.ptr 3 0)), (12, (qI y.2.1)), (13, (qI y.2.2.1))] [(0, [(AV.list 1 y.2.2.2.1 none)]), (1, [(AV.vs 4 0 y.2.2.2.2.1 1)]), (2, [(AV.list 25 y.2.2.2.2.2.1 none)]), (3, [(AV.vs 5 0 y.2.2.2.2.2.2.1 1)]), (4, y.2.2.2.2.2.2.2.1), (5, y.2.2.2.2.2.2.2.2)] (je 14).2.toks 6)
 b := fun u14 α kn ke => (match (decide (u14.2.2.2.2.2.2.1 < u14.2.2.2.2.2.1)) with | true => (if 0 <= u14.2.2.2.2.2.2.1 then (match u14.2.1[u14.2.2.2.2.2.2.1.toNat]? with | some c12 => (match zji c12 with | some e13 => (if 0 <= u14.2.2.2.2.2.2.1 /\ u14.2.2.2.2.2.2.1 < (u14.2.2.2.2.2.2.2.2.2.2.1 : Int) then (match u14.2.2.2.2.2.2.2.2.2.2.2.2.1[((0 + u14.2.2.2.2.2.2.1.toNat) * 1)]? with | some x14 => (match x14 with | .v (.bool b15) => (match (!b15) with | true => (match zmg N u14.2.2.2.2.2.2.2.2.2.2.2.2.2 with | some y16 => (match znJ N ((zx y16), e13) with | some y17 => (match y17 with | true => (if 0 <= u14.2.2.1 /\ u14.2.2.1 < (u14.2.2.2.2.2.2.2.2.1 : Int) then (if ((0 + u14.2.2.1.toNat) * 1) + 1 <= u14.2.2.2.2.2.2.2.2.2.2.2.1.length then (if 0 <= u14.2.2.2.2.2.2.1 /\ u14.2.2.2.2.2.2.1 < (u14.2.2.2.2.2.2.2.2.2.2.1 : Int) then (if ((0 + u14.2.2.2.2.2.2.1.toNat) * 1) + 1 <= u14.2.2.2.2.2.2.2.2.2.2.2.2.1.length then (ke (u14.1, u14.2.2.2.1, u14.2.2.2.2.1, u14.2.2.2.2.2.2.2.1, u14.2.2.2.2.2.2.2.2.1, u14.2.2.2.2.2.2.2.2.2.1, u14.2.2.2.2.2.2.2.2.2.2.1, ((splice u14.2.2.2.2.2.2.2.2.2.2.2.1 ((0 + u14.2.2.1.toNat) * 1) [(AV.v (.int .i64 u14.2.2.2.2.2.2.1))]).map dat0), ((splice u14.2.2.2.2.2.2.2.2.2.2.2.2.1 ((0 + u14.2.2.2.2.2.2.1.toNat) * 1) [(AV.v (.bool true))]).map dat0))) else none) else none) else none) else none) | false => (kn (u14.1, u14.2.1, u14.2.2.1, u14.2.2.2.1, u14.2.2.2.2.1, u14.2.2.2.2.2.1, (i64 (u14.2.2.2.2.2.2.1 + 1)), u14.2.2.2.2.2.2.2.1, u14.2.2.2.2.2.2.2.2.1, u14.2.2.2.2.2.2.2.2.2.1, u14.2.2.2.2.2.2.2.2.2.2.1, (u14.2.2.2.2.2.2.2.2.2.2.2.1.map dat0), (u14.2.2.2.2.2.2.2.2.2.2.2.2.1.map dat0), u14.2.2.2.2.2.2.2.2.2.2.2.2.2))) | none => none) | none => none) | false => (kn (u14.1, u14.2.1, u14.2.2.1, u14.2.2.2.1, u14.2.2.2.2.1, u14.2.2.2.2.2.1, (i64 (u14.2.2.2.2.2.2.1 + 1)), u14.2.2.2.2.2.2.2.1, u14.2.2.2.2.2.2.2.2.1, u14.2.2.2.2.2.2.2.2.2.1, u14.2.2.2.2.2.2.2.2.2.2.1, (u14.2.2.2.2.2.2.2.2.2.2.2.1.map dat0), (u14.2.2.2.2.2.2.2.2.2.2.2.2.1.map dat0), u14.2.2.2.2.2.2.2.2.2.2.2.2.2))) | _ => none) | none => none) else none) | none => none) | none => none) else none) | false => (ke (u14.1, u14.2.2.2.1, u14.2.2.2.2.1, u14.2.2.2.2.2.2.2.1, u14.2.2.2.2.2.2.2.2.1, u14.2.2.2.2.2.2.2.2.2.1, u14.2.2.2.2.2.2.2.2.2.2.1, (u14.2.2.2.2.2.2.2.2.2.2.2.1.map dat0), (u14.2.2.2.2.2.2.2.2.2.2.2.2.1.map dat0))))
abbrev zjy (N : Nat) (x : qL × qL × Int × Int × Int × Int × Int × qL × Nat × qL × Nat × qA × qA × qL) : Option ((qL × Int × Int × qL × Nat × qL × Nat × qA × qA)) := (zV N).L N x
def Zl (N : Nat) : LSpec where
 X := qL × Int × Int × qL × Nat × qL × Nat × qA × qA
 Y := (qL × Nat × qL × Nat × qA × qA)
 p := fun s => zes s.env.length 58 <| zes s.nin 6 <| Z3 1 (s.at 11) fun a0 => pFn 47 (s.at 0) fun c4 c5 => zQ c4 <| zQ c5 <| zbf 1 0 (s.at 2) <| zbf 2 0 (s.at 3) <| zbf 3 0 (s.at 4) <| jO .i64 (s.at 12) fun a1 => jO .i64 (s.at 13) fun a2 => Z0 (s.bx 0) fun c12 => zk c12 fun c14 c15 => Z3 1 c14 fun a3 => zQ c15 <| Z0 (s.bx 1) fun c16 => zk c16 fun c18 c19 => zhn 4 1 c18 fun a4 => zQ c19 <| Z0 (s.bx 2) fun c20 => zk c20 fun c22 c23 => Z3 25 c22 fun a5 => zQ c23 <| Z0 (s.bx 3) fun c24 => zk c24 fun c26 c27 => zhn 5 1 c26 fun a6 => zQ c27 <| Z0 (s.bx 4) fun a7 => Z0 (s.bx 5) fun a8 => some (a0, a1, a2, a3, a4, a5, a6, a7, a8)
 st := fun u2 => mkS 58 [(11, (AV.list 1 u2.1 none)), (0, (AV.fn (.func 47) [] [])), (2, (AV.ptr 1 0)), (3, (AV.ptr 2 0)), (4, (AV.ptr 3 0)), (12, (qI u2.2.1)), (13, (qI u2.2.2.1))] [(0, [(AV.list 1 u2.2.2.2.1 none)]), (1, [(AV.vs 4 0 u2.2.2.2.2.1 1)]), (2, [(AV.list 25 u2.2.2.2.2.2.1 none)]), (3, [(AV.vs 5 0 u2.2.2.2.2.2.2.1 1)]), (4, u2.2.2.2.2.2.2.2.1), (5, u2.2.2.2.2.2.2.2.2)] (je 2).1.toks 6
 out := fun y => (.exit 0, mkS 58 [] [(0, [(AV.list 1 y.1 none)]), (1, [(AV.vs 4 0 y.2.1 1)]), (2, [(AV.list 25 y.2.2.1 none)]), (3, [(AV.vs 5 0 y.2.2.2.1 1)]), (4, y.2.2.2.2.1), (5, y.2.2.2.2.2)] (je 2).2.toks 6)
 b := fun u2 α kn ke => (match (decide (u2.2.2.1 < u2.2.1)) with | true => (if 0 <= u2.2.2.1 then (match u2.1[u2.2.2.1.toNat]? with | some c19 => (match zfU c19 with | some e20 => (if 0 <= u2.2.2.1 /\ u2.2.2.1 < (u2.2.2.2.2.1 : Int) then (match u2.2.2.2.2.2.2.2.1[((0 + u2.2.2.1.toNat) * 1)]? with | some x21 => (match x21 with | .v (.int q23 n22) => (if q23 = .i64 then (match (decide (n22 >= 0)) with | true => (kn (u2.1, u2.2.1, (i64 (u2.2.2.1 + 1)), u2.2.2.2.1, u2.2.2.2.2.1, u2.2.2.2.2.2.1, u2.2.2.2.2.2.2.1, (u2.2.2.2.2.2.2.2.1.map dat0), (u2.2.2.2.2.2.2.2.2.map dat0))) | false => (match ((e20.1.length : Int) == 0) with | true => (kn (u2.1, u2.2.1, (i64 (u2.2.2.1 + 1)), u2.2.2.2.1, u2.2.2.2.2.1, u2.2.2.2.2.2.1, u2.2.2.2.2.2.2.1, (u2.2.2.2.2.2.2.2.1.map dat0), (u2.2.2.2.2.2.2.2.2.map dat0))) | false => (match zjy N (u2.1, u2.2.2.2.2.2.1, u2.2.2.1, u2.2.1, u2.2.2.1, (u2.2.2.2.2.2.1.length : Int), 0, u2.2.2.2.1, u2.2.2.2.2.1, u2.2.2.2.2.2.1, u2.2.2.2.2.2.2.1, (u2.2.2.2.2.2.2.2.1.map dat0), (u2.2.2.2.2.2.2.2.2.map dat0), e20.1) with | some y24 => (kn (y24.1, y24.2.1, (i64 (y24.2.2.1 + 1)), y24.2.2.2.1, y24.2.2.2.2.1, y24.2.2.2.2.2.1, y24.2.2.2.2.2.2.1, (y24.2.2.2.2.2.2.2.1.map dat0), (y24.2.2.2.2.2.2.2.2.map dat0))) | none => none))) else none) | _ => none) | none => none) else none) | none => none) | none => none) else none) | false => (ke (u2.2.2.2.1, u2.2.2.2.2.1, u2.2.2.2.2.2.1, u2.2.2.2.2.2.2.1, (u2.2.2.2.2.2.2.2.1.map dat0), (u2.2.2.2.2.2.2.2.2.map dat0))))
abbrev zn1 (N : Nat) (x : qL × Int × Int × qL × Nat × qL × Nat × qA × qA) : Option ((qL × Nat × qL × Nat × qA × qA)) := (Zl N).L N x
def zam (N : Nat) : FSpec where
 X := qL × Nat × qL × Nat × qA × qA
 Y := qL × Nat × qL × Nat × qA × qA
 ash := [[none], [none], [none], [none], [none]]
 bsh := [[some 1], [none], [some 25], [none], [], []]
 S := ⟨[], [[some 1], [some 2000001], [some 25], [some 2000001], [], []], [], [], [4, 5]⟩
 pat := fun a b => zk a fun v1 c2 => pFn 47 v1 fun c3 c4 => zQ c3 <| zQ c4 <| zk c2 fun v5 c6 => zbf 0 0 v5 <| zk c6 fun v7 c8 => zbf 1 0 v7 <| zk c8 fun v9 c10 => zbf 2 0 v9 <| zk c10 fun v11 c12 => zbf 3 0 v11 <| zQ c12 <| zk b fun v13 c14 => zk v13 fun c15 c16 => Z3 1 c15 fun a0 => zQ c16 <| zk c14 fun v17 c18 => zk v17 fun c19 c20 => zhn 4 1 c19 fun a1 => zQ c20 <| zk c18 fun v21 c22 => zk v21 fun c23 c24 => Z3 25 c23 fun a2 => zQ c24 <| zk c22 fun v25 c26 => zk v25 fun c27 c28 => zhn 5 1 c27 fun a3 => zQ c28 <| zk c26 fun a4 c29 => zk c29 fun a5 c30 => zQ c30 <| some (a0, a1, a2, a3, a4, a5)
 args := fun x => [(AV.fn (.func 47) [] []), (AV.ptr 0 0), (AV.ptr 1 0), (AV.ptr 2 0), (AV.ptr 3 0)]
 bs := fun x => [[(AV.list 1 x.1 none)], [(AV.vs 4 0 x.2.1 1)], [(AV.list 25 x.2.2.1 none)], [(AV.vs 5 0 x.2.2.2.1 1)], x.2.2.2.2.1, x.2.2.2.2.2]
 ret := fun y => ⟨(AV.tup []), [[(AV.list 1 y.1 none)], [(AV.vs 4 0 y.2.1 1)], [(AV.list 25 y.2.2.1 none)], [(AV.vs 5 0 y.2.2.2.1 1)], y.2.2.2.2.1, y.2.2.2.2.2], none, [], [], [4, 5], none⟩
 t := fun x α k => (match zn1 N (x.1, (x.1.length : Int), 0, x.1, x.2.1, x.2.2.1, x.2.2.2.1, (x.2.2.2.2.1.map dat0), (x.2.2.2.2.2.map dat0)) with | some y25 => (k (y25.1, y25.2.1, y25.2.2.1, y25.2.2.2.1, (y25.2.2.2.2.1.map dat0), (y25.2.2.2.2.2.map dat0))) | none => none)
abbrev zmc (N : Nat) (x : qL × Nat × qL × Nat × qA × qA) : Option (qL × Nat × qL × Nat × qA × qA) := (zam N).d x
def J4 (N : Nat) : List (Nat × LSpec) := [(2, Zl N), (14, zV N)]
def zaT : Code := Tryd.f45.body.getD .skip
theorem zlR (N : Nat) : Par (zV N).b := by
 intro x α β kn ke kn' ke' r r' h h1 h2
 revert h
 dsimp only [zV]
 (repeat' (first | (with_reducible refine ze ?_ ?_) | split)) <;> intro h <;> first | exact h1 _ h | exact h2 _ h | cases h
theorem ziz (N : Nat) : jh (zn qP) (znz N) je N (J4 N) 14 zaT (zV N) := fun x α kn ke => by kernel_rfl
theorem zlq (N : Nat) (s : AS) (x : (zV N).X) (hc : s = ZM (je 14).1 s) (h : (zV N).p s = some x) : s = (zV N).st x := by
 replace h : zes _ _ _ = some x := h
 obtain ⟨h1, g0⟩ := jA h
 obtain ⟨h2, g1⟩ := jA g0; clear g0
 obtain ⟨a0, h3, g2⟩ := zr g1; clear g1
 obtain ⟨a1, h4, g3⟩ := zr g2; clear g2
 obtain ⟨c5, c6, h7, g4⟩ := zap g3; clear g3
 obtain ⟨rfl, g5⟩ := zg g4; clear g4
 obtain ⟨rfl, g6⟩ := zg g5; clear g5
 obtain ⟨h8, g7⟩ := Zc g6; clear g6
 obtain ⟨h9, g8⟩ := Zc g7; clear g7
 obtain ⟨h10, g9⟩ := Zc g8; clear g8
 obtain ⟨a2, h11, g10⟩ := zC g9; clear g9
 obtain ⟨h12, g11⟩ := Zc g10; clear g10
 obtain ⟨a3, h13, g12⟩ := zC g11; clear g11
 obtain ⟨a4, h14, g13⟩ := zC g12; clear g12
 obtain ⟨a5, h15, g14⟩ := zC g13; clear g13
 obtain ⟨a6, h16, g15⟩ := zC g14; clear g14
 obtain ⟨c17, h18, g16⟩ := zO g15; clear g15
 obtain ⟨c19, c20, rfl, g17⟩ := zb g16; clear g16
 obtain ⟨a7, rfl, g18⟩ := zr g17; clear g17
 obtain ⟨rfl, g19⟩ := zg g18; clear g18
 obtain ⟨c21, h22, g20⟩ := zO g19; clear g19
 obtain ⟨c23, c24, rfl, g21⟩ := zb g20; clear g20
 obtain ⟨a8, rfl, g22⟩ := jn g21; clear g21
 obtain ⟨rfl, g23⟩ := zg g22; clear g22
 obtain ⟨c25, h26, g24⟩ := zO g23; clear g23
 obtain ⟨c27, c28, rfl, g25⟩ := zb g24; clear g24
 obtain ⟨a9, rfl, g26⟩ := zr g25; clear g25
 obtain ⟨rfl, g27⟩ := zg g26; clear g26
 obtain ⟨c29, h30, g28⟩ := zO g27; clear g27
 obtain ⟨c31, c32, rfl, g29⟩ := zb g28; clear g28
 obtain ⟨a10, rfl, g30⟩ := jn g29; clear g29
 obtain ⟨rfl, g31⟩ := zg g30; clear g30
 obtain ⟨a11, h33, g32⟩ := zO g31; clear g31
 obtain ⟨a12, h34, g33⟩ := zO g32; clear g32
 obtain ⟨c35, h36, g34⟩ := zO g33; clear g33
 obtain ⟨c37, c38, rfl, g35⟩ := zb g34; clear g34
 obtain ⟨a13, rfl, g36⟩ := zr g35; clear g35
 obtain ⟨rfl, g37⟩ := zg g36; clear g36
 clear h
 cases g37
 exact JJ hc h1 h2 rfl rfl rfl rfl ⟨h3, h4, h7, h8, h9, h10, h11, h12, h13, h14, h15, h16, trivial⟩ ⟨h18, h22, h26, h30, h33, h34, h36, trivial⟩
theorem zdm (N : Nat) : ZK qP je N (J4 N) 14 (zc 14 zaT) :=
 zD (zd qP) (zi _) zl je N (J4 N) 14 zaT (l := []) (by kernel_rfl) (by kernel_rfl) an (zV N) rfl (zlq N) (fun _ => rfl) (ziz N) (zlR N)
theorem zp5 (N : Nat) : Par (Zl N).b := by
 intro x α β kn ke kn' ke' r r' h h1 h2
 revert h
 dsimp only [Zl]
 (repeat' (first | (with_reducible refine ze ?_ ?_) | split)) <;> intro h <;> first | exact h1 _ h | exact h2 _ h | cases h
theorem zlw (N : Nat) : jh (zn qP) (znz N) je N (J4 N) 2 zaT (Zl N) := fun x α kn ke => by kernel_rfl
theorem zpG (N : Nat) (s : AS) (x : (Zl N).X) (hc : s = ZM (je 2).1 s) (h : (Zl N).p s = some x) : s = (Zl N).st x := by
 replace h : zes _ _ _ = some x := h
 obtain ⟨h1, g0⟩ := jA h
 obtain ⟨h2, g1⟩ := jA g0; clear g0
 obtain ⟨a0, h3, g2⟩ := zr g1; clear g1
 obtain ⟨c4, c5, h6, g3⟩ := zap g2; clear g2
 obtain ⟨rfl, g4⟩ := zg g3; clear g3
 obtain ⟨rfl, g5⟩ := zg g4; clear g4
 obtain ⟨h7, g6⟩ := Zc g5; clear g5
 obtain ⟨h8, g7⟩ := Zc g6; clear g6
 obtain ⟨h9, g8⟩ := Zc g7; clear g7
 obtain ⟨a1, h10, g9⟩ := zC g8; clear g8
 obtain ⟨a2, h11, g10⟩ := zC g9; clear g9
 obtain ⟨c12, h13, g11⟩ := zO g10; clear g10
 obtain ⟨c14, c15, rfl, g12⟩ := zb g11; clear g11
 obtain ⟨a3, rfl, g13⟩ := zr g12; clear g12
 obtain ⟨rfl, g14⟩ := zg g13; clear g13
 obtain ⟨c16, h17, g15⟩ := zO g14; clear g14
 obtain ⟨c18, c19, rfl, g16⟩ := zb g15; clear g15
 obtain ⟨a4, rfl, g17⟩ := jn g16; clear g16
 obtain ⟨rfl, g18⟩ := zg g17; clear g17
 obtain ⟨c20, h21, g19⟩ := zO g18; clear g18
 obtain ⟨c22, c23, rfl, g20⟩ := zb g19; clear g19
 obtain ⟨a5, rfl, g21⟩ := zr g20; clear g20
 obtain ⟨rfl, g22⟩ := zg g21; clear g21
 obtain ⟨c24, h25, g23⟩ := zO g22; clear g22
 obtain ⟨c26, c27, rfl, g24⟩ := zb g23; clear g23
 obtain ⟨a6, rfl, g25⟩ := jn g24; clear g24
 obtain ⟨rfl, g26⟩ := zg g25; clear g25
 obtain ⟨a7, h28, g27⟩ := zO g26; clear g26
 obtain ⟨a8, h29, g28⟩ := zO g27; clear g27
 clear h
 cases g28
 exact JJ hc h1 h2 rfl rfl rfl rfl ⟨h3, h6, h7, h8, h9, h10, h11, trivial⟩ ⟨h13, h17, h21, h25, h28, h29, trivial⟩
theorem zkG (N : Nat) : ZK qP je N (J4 N) 2 (zc 2 zaT) :=
 zD (zd qP) (zi _) zl je N (J4 N) 2 zaT (l := [(14, zc 14 zaT)]) (by kernel_rfl) (by kernel_rfl) (al (zdm N) an) (Zl N) rfl (zpG N) (fun _ => rfl) (zlw N) (zp5 N)
theorem znI (N : Nat) : Zd (zam N).t := by
 intro x α β k k' r r' h h1
 revert h
 dsimp only [zam]
 (repeat' (first | (with_reducible refine ze ?_ ?_) | split)) <;> intro h <;> first | exact h1 _ h | cases h
theorem znM (N : Nat) : Zh (zn qP) (znz N) je (lam N (J4 N)) Tryd.f45 (zam N) := fun x => by kernel_rfl
theorem zsf (N : Nat) (a : List AV) (b : qL) (x : (zam N).X) (h : (zam N).pat a b = some x) : a = (zam N).args x /\ b = (zam N).bs x := by
 obtain ⟨v1, c2, rfl, g0⟩ := zb (show zk _ _ = some x from h)
 obtain ⟨c3, c4, rfl, g1⟩ := zap g0; clear g0
 obtain ⟨rfl, g2⟩ := zg g1; clear g1
 obtain ⟨rfl, g3⟩ := zg g2; clear g2
 obtain ⟨v5, c6, rfl, g4⟩ := zb g3; clear g3
 obtain ⟨rfl, g5⟩ := Zc g4; clear g4
 obtain ⟨v7, c8, rfl, g6⟩ := zb g5; clear g5
 obtain ⟨rfl, g7⟩ := Zc g6; clear g6
 obtain ⟨v9, c10, rfl, g8⟩ := zb g7; clear g7
 obtain ⟨rfl, g9⟩ := Zc g8; clear g8
 obtain ⟨v11, c12, rfl, g10⟩ := zb g9; clear g9
 obtain ⟨rfl, g11⟩ := Zc g10; clear g10
 obtain ⟨rfl, g12⟩ := zg g11; clear g11
 obtain ⟨v13, c14, rfl, g13⟩ := zb g12; clear g12
 obtain ⟨c15, c16, rfl, g14⟩ := zb g13; clear g13
 obtain ⟨a0, rfl, g15⟩ := zr g14; clear g14
 obtain ⟨rfl, g16⟩ := zg g15; clear g15
 obtain ⟨v17, c18, rfl, g17⟩ := zb g16; clear g16
 obtain ⟨c19, c20, rfl, g18⟩ := zb g17; clear g17
 obtain ⟨a1, rfl, g19⟩ := jn g18; clear g18
 obtain ⟨rfl, g20⟩ := zg g19; clear g19
 obtain ⟨v21, c22, rfl, g21⟩ := zb g20; clear g20
 obtain ⟨c23, c24, rfl, g22⟩ := zb g21; clear g21
 obtain ⟨a2, rfl, g23⟩ := zr g22; clear g22
 obtain ⟨rfl, g24⟩ := zg g23; clear g23
 obtain ⟨v25, c26, rfl, g25⟩ := zb g24; clear g24
 obtain ⟨c27, c28, rfl, g26⟩ := zb g25; clear g25
 obtain ⟨a3, rfl, g27⟩ := jn g26; clear g26
 obtain ⟨rfl, g28⟩ := zg g27; clear g27
 obtain ⟨a4, c29, rfl, g29⟩ := zb g28; clear g28
 obtain ⟨a5, c30, rfl, g30⟩ := zb g29; clear g29
 obtain ⟨rfl, g31⟩ := zg g30; clear g30
 clear h
 cases g31
 exact ⟨rfl, rfl⟩
def zAR (N : Nat) : Ent qP := zA (zd qP) (zi _) zl 45 Tryd.f45 Tryd.func45 rfl je (lam N (J4 N)) (zm (l := [(2, zc 2 zaT), (14, zc 14 zaT)]) (al (zkG N) (al (zdm N) an)) (by kernel_rfl)) (zam N) (fun _ => ⟨rfl, rfl⟩) (znM N) (zsf N) (znI N)
def zw7 : Nat -> Keep × Keep := anF [] [(100006, ([], [((5, 0), 1)]))]
def zD3 (N : Nat) : GamK := gam (P := qP) [zAd N, zCS N, zAR N]
def zec (N : Nat) : FSpec where
 X := qL × qL
 Y := qL
 ash := [[some 1], [some 25]]
 S := ⟨[[some 2000001]], [], [], [], []⟩
 pat := fun a b => zk a fun v1 c2 => jg v1 fun c3 => zk c3 fun c4 c5 => Z3 1 c4 fun a0 => zQ c5 <| zk c2 fun v6 c7 => Z3 25 v6 fun a1 => zQ c7 <| zQ b <| some (a0, a1)
 args := fun x => [(AV.agg [(AV.list 1 x.1 none)]), (AV.list 25 x.2 none)]
 ret := fun y => ⟨(AV.list 1 y (some 2560000000)), [], none, [], [2560000000], [], none⟩
 t := fun x α k => (match zwy N ([[(AV.v (.int .i64 (-1)))]], (x.1.length : Int)) with | some y1 => (if 0 <= (x.2.length : Int) /\ (x.2.length : Int) <= (x.2.length : Int) /\ (x.2.length : Int).toNat * 1 <= zh then (match zy7 N (x.1, y1.1, x.2, ((x.2.length : Int).toNat), ((y1.2.map dat0).map dat0), ((List.replicate (x.2.length : Int).toNat (AV.v (.bool false))).map dat0)) with | some y2 => (match zmc N (y2.1, y2.2.1, y2.2.2.1, y2.2.2.2.1, (y2.2.2.2.2.1.map dat0), (y2.2.2.2.2.2.map dat0)) with | some y3 => (if y3.2.1 * 1 <= y3.2.2.2.2.1.length then (k (zK (y3.2.2.2.2.1.take (y3.2.1 * 1)) 1 y3.2.1)) else none) | none => none) | none => none) else none) | none => none)
abbrev zvj (N : Nat) (x : qL × qL) : Option (qL) := (zec N).d x
theorem zrP (N : Nat) : Zd (zec N).t := by
 intro x α β k k' r r' h h1
 revert h
 dsimp only [zec]
 (repeat' (first | (with_reducible refine ze ?_ ?_) | split)) <;> intro h <;> first | exact h1 _ h | cases h
theorem zta (N : Nat) : Zh (JT qP [12]) (zD3 N) zw7 (lam N []) Tryd.f13 (zec N) := fun x => by kernel_rfl
theorem zzb (N : Nat) (a : List AV) (b : qL) (x : (zec N).X) (h : (zec N).pat a b = some x) : a = (zec N).args x /\ b = (zec N).bs x := by
 obtain ⟨v1, c2, rfl, g0⟩ := zb (show zk _ _ = some x from h)
 obtain ⟨c3, rfl, g1⟩ := zR g0; clear g0
 obtain ⟨c4, c5, rfl, g2⟩ := zb g1; clear g1
 obtain ⟨a0, rfl, g3⟩ := zr g2; clear g2
 obtain ⟨rfl, g4⟩ := zg g3; clear g3
 obtain ⟨v6, c7, rfl, g5⟩ := zb g4; clear g4
 obtain ⟨a1, rfl, g6⟩ := zr g5; clear g5
 obtain ⟨rfl, g7⟩ := zg g6; clear g6
 obtain ⟨rfl, g8⟩ := zg g7; clear g7
 clear h
 cases g8
 exact ⟨rfl, rfl⟩
def zDn (N : Nat) : Ent qP := zA (zL qP [12]) (zi _) zl 13 Tryd.f13 Tryd.func13 rfl zw7 (lam N []) (zm (l := []) an (by kernel_rfl)) (zec N) (fun _ => ⟨rfl, rfl⟩) (zta N) (zzb N) (zrP N)
end
end Go.Proofs.YthdgnfcbehcplaaDoor
end
section
namespace Go.Proofs.YthdgnfcbehcplaaDoor
noncomputable section
open Go.RowKit
set_option maxRecDepth 4000
set_option maxHeartbeats 4000000
def zv3 : Nat -> Keep × Keep := anL []
def zDC (N : Nat) : GamK := gam (P := qP) []
def zdS (N : Nat) : FSpec where
 X := qL × Int
 Y := Bool
 ash := [[some 1], [none]]
 S := ⟨[[none]], [], [], [], []⟩
 pat := fun a b => zk a fun v1 c2 => jg v1 fun c3 => zk c3 fun c4 c5 => Z3 1 c4 fun a0 => zQ c5 <| zk c2 fun v6 c7 => jO .i64 v6 fun a1 => zQ c7 <| zQ b <| some (a0, a1)
 args := fun x => [(AV.agg [(AV.list 1 x.1 none)]), (AV.v (.int .i64 x.2))]
 ret := fun y => ⟨(AV.v (.bool y)), [], none, [], [], [], none⟩
 t := fun x α k => (match (decide (x.2 >= 0)) with | true => (k (decide (x.2 < (x.1.length : Int)))) | false => (k false))
abbrev zpZ (N : Nat) (x : qL × Int) : Option (Bool) := (zdS N).d x
theorem ztY (N : Nat) : Zd (zdS N).t := by
 intro x α β k k' r r' h h1
 revert h
 dsimp only [zdS]
 (repeat' (first | (with_reducible refine ze ?_ ?_) | split)) <;> intro h <;> first | exact h1 _ h | cases h
theorem zq4 (N : Nat) : Zh (zn qP) (zDC N) zv3 (lam N []) Tryd.f75 (zdS N) := fun x => by kernel_rfl
theorem zyz (N : Nat) (a : List AV) (b : qL) (x : (zdS N).X) (h : (zdS N).pat a b = some x) : a = (zdS N).args x /\ b = (zdS N).bs x := by
 obtain ⟨v1, c2, rfl, g0⟩ := zb (show zk _ _ = some x from h)
 obtain ⟨c3, rfl, g1⟩ := zR g0; clear g0
 obtain ⟨c4, c5, rfl, g2⟩ := zb g1; clear g1
 obtain ⟨a0, rfl, g3⟩ := zr g2; clear g2
 obtain ⟨rfl, g4⟩ := zg g3; clear g3
 obtain ⟨v6, c7, rfl, g5⟩ := zb g4; clear g4
 obtain ⟨a1, rfl, g6⟩ := zC g5; clear g5
 obtain ⟨rfl, g7⟩ := zg g6; clear g6
 obtain ⟨rfl, g8⟩ := zg g7; clear g7
 clear h
 cases g8
 exact ⟨rfl, rfl⟩
def zDs (N : Nat) : Ent qP := zA (zd qP) (zi _) zl 75 Tryd.f75 Tryd.func75 rfl zv3 (lam N []) (zm (l := []) an (by kernel_rfl)) (zdS N) (fun _ => ⟨rfl, rfl⟩) (zq4 N) (zyz N) (ztY N)
def zw3 : Nat -> Keep × Keep := anL []
def zDW (N : Nat) : GamK := gam (P := qP) []
def znU (N : Nat) : FSpec where
 X := Int
 Y := Bool
 ash := [[none]]
 S := ⟨[[none]], [], [], [], []⟩
 pat := fun a b => rdA [.int .i64] [] a b fun ⟨a0, _⟩ _ => a0
 args := fun x => [(AV.v (.int .i64 x))]
 ret := fun y => ⟨(AV.v (.bool y)), [], none, [], [], [], none⟩
 t := fun x α k => (if 0 <= x /\ x < 7 then (match ((gtab3.map AV.v).drop (x.toNat * 1))[0]? with | some x1 => (match x1 with | .v (.bool b2) => (match b2 with | true => (k true) | false => (k (x == 6))) | _ => none) | none => none) else none)
abbrev zq2 (N : Nat) (x : Int) : Option (Bool) := (znU N).d x
theorem zuz (N : Nat) : Zd (znU N).t := by
 intro x α β k k' r r' h h1
 revert h
 dsimp only [znU]
 (repeat' (first | (with_reducible refine ze ?_ ?_) | split)) <;> intro h <;> first | exact h1 _ h | cases h
theorem zvz (N : Nat) : Zh (zn qP) (zDW N) zw3 (lam N []) Tryd.f37 (znU N) := fun x => by kernel_rfl
def zBO (N : Nat) : Ent qP := zA (zd qP) (zi _) zl 37 Tryd.f37 Tryd.func37 rfl zw3 (lam N []) (zm (l := []) an (by kernel_rfl)) (znU N) (fun _ => ⟨rfl, rfl⟩) (zvz N) (fun _ _ _ h => zw h (fun _ _ => rfl) (fun _ _ => rfl)) (zuz N)
def jx : Nat -> Keep × Keep := anL [(5, ⟨[2, 3, 11, 12], [], [2, 3], [(10, 1)], [((2, 0), 1)], [], [((3, 0), 1)], [], false, some 2012288, []⟩, ⟨[2, 3], [], [2, 3], [], [((2, 0), 1)], [], [((3, 0), 1)], [], false, some 2012288, []⟩), (16, ⟨[2, 3, 11, 12, 18, 19], [(6, 29)], [2, 3], [(10, 1), (17, 29)], [((2, 0), 1)], [], [((3, 0), 1)], [], false, some 2012288, []⟩, ⟨[2, 3, 11, 12], [(6, 29)], [2, 3], [(10, 1)], [((2, 0), 1)], [], [((3, 0), 1)], [], false, some 2012288, []⟩)]
def zoY (N : Nat) : GamK := gam (P := qP) [zq3 N]
def Zt (N : Nat) : LSpec where
 X := qL × qL × qL × Int × Int × Int × Int × qL × Nat × qA × Nat × Nat
 Y := (qL × qL × Int × Int × qL × Nat × qA × Nat × Nat)
 p := fun s => rdF 41 0 2012288 [(6, .tok 29 1280000384), (10, .lst 1), (17, .lst 29), (2, .ptr 2 0), (3, .ptr 3 0), (11, .int .i64), (12, .int .i64), (18, .int .i64), (19, .int .i64)] [(2, .cells [.tok 1 6400524288]), (3, .cells [.vs0 2012288 1]), (2012288, .tt)] s fun ⟨a0, a1, a2, _, _, a3, a4, a5, a6, _⟩ ⟨⟨a7, _⟩, ⟨a8, _⟩, a9, _⟩ a10 a11 => (a0, a1, a2, a3, a4, a5, a6, a7, a8, a9, a10, a11)
 st := fun u16 => mkF 41 [(6, (AV.list 29 u16.1 (some 1280000384))), (10, (AV.list 1 u16.2.1 none)), (17, (AV.list 29 u16.2.2.1 none)), (2, (AV.ptr 2 0)), (3, (AV.ptr 3 0)), (11, (qI u16.2.2.2.1)), (12, (qI u16.2.2.2.2.1)), (18, (qI u16.2.2.2.2.2.1)), (19, (qI u16.2.2.2.2.2.2.1))] [(2, [(AV.list 1 u16.2.2.2.2.2.2.2.1 (some 6400524288))]), (3, [(AV.vs 2012288 0 u16.2.2.2.2.2.2.2.2.1 1)]), (2012288, u16.2.2.2.2.2.2.2.2.2.1)] (jx 16).1.toks 0 (some (2012288, u16.2.2.2.2.2.2.2.2.2.2.1, u16.2.2.2.2.2.2.2.2.2.2.2))
 out := fun y => (.exit 2, mkF 41 [(6, (AV.list 29 y.1 (some 1280000384))), (10, (AV.list 1 y.2.1 none)), (2, (AV.ptr 2 0)), (3, (AV.ptr 3 0)), (11, (qI y.2.2.1)), (12, (qI y.2.2.2.1))] [(2, [(AV.list 1 y.2.2.2.2.1 (some 6400524288))]), (3, [(AV.vs 2012288 0 y.2.2.2.2.2.1 1)]), (2012288, y.2.2.2.2.2.2.1)] (jx 16).2.toks 0 (some (2012288, y.2.2.2.2.2.2.2.1, y.2.2.2.2.2.2.2.2)))
 b := fun u16 α kn ke => (match (decide (u16.2.2.2.2.2.2.1 < u16.2.2.2.2.2.1)) with | true => (if 0 <= u16.2.2.2.2.2.2.1 then (match u16.2.2.1[u16.2.2.2.2.2.2.1.toNat]? with | some c6 => (match zlh c6 with | some e7 => (match zcQ N (zx e7) with | some y8 => (if (u16.1.length + [(zN (e7.1, e7.2.1, e7.2.2.1, e7.2.2.2.1, y8))].length) * 288 <= zh then (kn ((u16.1 ++ [(zN (e7.1, e7.2.1, e7.2.2.1, e7.2.2.2.1, y8))]), u16.2.1, u16.2.2.1, u16.2.2.2.1, u16.2.2.2.2.1, u16.2.2.2.2.2.1, (i64 (u16.2.2.2.2.2.2.1 + 1)), u16.2.2.2.2.2.2.2.1, u16.2.2.2.2.2.2.2.2.1, (u16.2.2.2.2.2.2.2.2.2.1.map datF), u16.2.2.2.2.2.2.2.2.2.2)) else none) | none => none) | none => none) | none => none) else none) | false => (ke (u16.1, u16.2.1, u16.2.2.2.1, u16.2.2.2.2.1, u16.2.2.2.2.2.2.2.1, u16.2.2.2.2.2.2.2.2.1, (u16.2.2.2.2.2.2.2.2.2.1.map datF), u16.2.2.2.2.2.2.2.2.2.2)))
abbrev zjh (N : Nat) (x : qL × qL × qL × Int × Int × Int × Int × qL × Nat × qA × Nat × Nat) : Option ((qL × qL × Int × Int × qL × Nat × qA × Nat × Nat)) := (Zt N).L N x
def ZS (N : Nat) : LSpec where
 X := qL × Int × Int × qL × Nat × qA × Nat × Nat
 Y := (qL × Nat × qA × Nat × Nat)
 p := fun s => rdF 41 0 2012288 [(10, .lst 1), (2, .ptr 2 0), (3, .ptr 3 0), (11, .int .i64), (12, .int .i64)] [(2, .cells [.tok 1 6400524288]), (3, .cells [.vs0 2012288 1]), (2012288, .tt)] s fun ⟨a0, _, _, a1, a2, _⟩ ⟨⟨a3, _⟩, ⟨a4, _⟩, a5, _⟩ a6 a7 => (a0, a1, a2, a3, a4, a5, a6, a7)
 st := fun u5 => mkF 41 [(10, (AV.list 1 u5.1 none)), (2, (AV.ptr 2 0)), (3, (AV.ptr 3 0)), (11, (qI u5.2.1)), (12, (qI u5.2.2.1))] [(2, [(AV.list 1 u5.2.2.2.1 (some 6400524288))]), (3, [(AV.vs 2012288 0 u5.2.2.2.2.1 1)]), (2012288, u5.2.2.2.2.2.1)] (jx 5).1.toks 0 (some (2012288, u5.2.2.2.2.2.2.1, u5.2.2.2.2.2.2.2))
 out := fun y => (.exit 0, mkF 41 [(2, (AV.ptr 2 0)), (3, (AV.ptr 3 0))] [(2, [(AV.list 1 y.1 (some 6400524288))]), (3, [(AV.vs 2012288 0 y.2.1 1)]), (2012288, y.2.2.1)] (jx 5).2.toks 0 (some (2012288, y.2.2.2.1, y.2.2.2.2)))
 b := fun u5 α kn ke => (match (decide (u5.2.2.1 < u5.2.1)) with | true => (if 0 <= u5.2.2.1 then (match u5.1[u5.2.2.1.toNat]? with | some c10 => (match zfU c10 with | some e11 => (match zjh N (([] : qL), u5.1, e11.1, u5.2.1, u5.2.2.1, (e11.1.length : Int), 0, u5.2.2.2.1, u5.2.2.2.2.1, (u5.2.2.2.2.2.1.map datF), u5.2.2.2.2.2.2) with | some y12 => (if (y12.2.2.2.2.2.2.2.2 = y12.2.2.2.2.2.1 /\ y12.2.2.2.2.2.2.2.1 <= y12.2.2.2.2.2.2.2.2) /\ y12.2.2.2.2.2.1 * 1 <= y12.2.2.2.2.2.2.1.length /\ (y12.2.2.2.2.2.1 + 1) * 24 <= zh then (kn (y12.2.1, y12.2.2.1, (i64 (y12.2.2.2.1 + 1)), y12.2.2.2.2.1, (y12.2.2.2.2.2.1 + 1), ((y12.2.2.2.2.2.2.1.take (y12.2.2.2.2.2.1 * 1) ++ [AV.list 29 y12.1 (some (TOB + y12.2.2.2.2.2.2.2.2))]).map datF), y12.2.2.2.2.2.2.2.1, (y12.2.2.2.2.2.2.2.2 + 1))) else none) | none => none) | none => none) | none => none) else none) | false => (ke (u5.2.2.2.1, u5.2.2.2.2.1, (u5.2.2.2.2.2.1.map datF), u5.2.2.2.2.2.2)))
abbrev znx (N : Nat) (x : qL × Int × Int × qL × Nat × qA × Nat × Nat) : Option ((qL × Nat × qA × Nat × Nat)) := (ZS N).L N x
def zau (N : Nat) : FSpec where
 X := qL
 Y := Nat × qA × Nat × Nat
 ash := [[some 1]]
 S := ⟨[[some 1]], [], [], [], []⟩
 bm := true
 pat := fun a b => zk a fun v1 c2 => jg v1 fun c3 => zk c3 fun c4 c5 => Z3 1 c4 fun a0 => zQ c5 <| zQ c2 <| zQ b <| some a0
 args := fun x => [(AV.agg [(AV.list 1 x none)])]
 ret := fun y => ⟨(AV.agg [(AV.vs 0 0 y.1 1)]), [], some y.2.1, [], [], [], some (y.2.2.1, y.2.2.2)⟩
 t := fun x α k => (match znx N (x, (x.length : Int), 0, ([] : qL), 0, ([] : List AV), 0, 0) with | some y13 => (k (y13.2.1, (y13.2.2.1.map datF), y13.2.2.2)) | none => none)
abbrev zjD (N : Nat) (x : qL) : Option (Nat × qA × Nat × Nat) := (zau N).d x
def J7 (N : Nat) : List (Nat × LSpec) := [(5, ZS N), (16, Zt N)]
def za2 : Code := Tryd.f35.body.getD .skip
theorem zj2 (N : Nat) : Par (Zt N).b := by
 intro x α β kn ke kn' ke' r r' h h1 h2
 revert h
 dsimp only [Zt]
 (repeat' (first | (with_reducible refine ze ?_ ?_) | split)) <;> intro h <;> first | exact h1 _ h | exact h2 _ h | cases h
theorem zhF (N : Nat) : jh (JT qP [36, 37]) (zoY N) jx N (J7 N) 16 za2 (Zt N) := fun x α kn ke => by kernel_rfl
theorem zdq (N : Nat) : ZK qP jx N (J7 N) 16 (zc 16 za2) :=
 zD (zL qP [36, 37]) (zi _) zl jx N (J7 N) 16 za2 (l := []) (by kernel_rfl) (by kernel_rfl) an (Zt N) rfl (fun s x hc h => by dsimp only [Zt] at h; exact za5 hc h (fun _ _ _ _ => rfl) rfl rfl) (fun _ => rfl) (zhF N) (zj2 N)
theorem zmS (N : Nat) : Par (ZS N).b := by
 intro x α β kn ke kn' ke' r r' h h1 h2
 revert h
 dsimp only [ZS]
 (repeat' (first | (with_reducible refine ze ?_ ?_) | split)) <;> intro h <;> first | exact h1 _ h | exact h2 _ h | cases h
theorem zkE (N : Nat) : jh (JT qP [36, 37]) (zoY N) jx N (J7 N) 5 za2 (ZS N) := fun x α kn ke => by kernel_rfl
theorem zkN (N : Nat) : ZK qP jx N (J7 N) 5 (zc 5 za2) :=
 zD (zL qP [36, 37]) (zi _) zl jx N (J7 N) 5 za2 (l := [(16, zc 16 za2)]) (by kernel_rfl) (by kernel_rfl) (al (zdq N) an) (ZS N) rfl (fun s x hc h => by dsimp only [ZS] at h; exact za5 hc h (fun _ _ _ _ => rfl) rfl rfl) (fun _ => rfl) (zkE N) (zmS N)
theorem zn0 (N : Nat) : Zd (zau N).t := by
 intro x α β k k' r r' h h1
 revert h
 dsimp only [zau]
 (repeat' (first | (with_reducible refine ze ?_ ?_) | split)) <;> intro h <;> first | exact h1 _ h | cases h
theorem zp4 (N : Nat) : Zh (JT qP [36, 37]) (zoY N) jx (lam N (J7 N)) Tryd.f35 (zau N) := fun x => by kernel_rfl
theorem zul (N : Nat) (a : List AV) (b : qL) (x : (zau N).X) (h : (zau N).pat a b = some x) : a = (zau N).args x /\ b = (zau N).bs x := by
 obtain ⟨v1, c2, rfl, g0⟩ := zb (show zk _ _ = some x from h)
 obtain ⟨c3, rfl, g1⟩ := zR g0; clear g0
 obtain ⟨c4, c5, rfl, g2⟩ := zb g1; clear g1
 obtain ⟨a0, rfl, g3⟩ := zr g2; clear g2
 obtain ⟨rfl, g4⟩ := zg g3; clear g3
 obtain ⟨rfl, g5⟩ := zg g4; clear g4
 obtain ⟨rfl, g6⟩ := zg g5; clear g5
 clear h
 cases g6
 exact ⟨rfl, rfl⟩
def zwd (N : Nat) : Ent qP := zA (zL qP [36, 37]) (zi _) zl 35 Tryd.f35 Tryd.func35 rfl jx (lam N (J7 N)) (zm (l := [(5, zc 5 za2), (16, zc 16 za2)]) (al (zkN N) (al (zdq N) an)) (by kernel_rfl)) (zau N) (fun _ => ⟨rfl, rfl⟩) (zp4 N) (zul N) (zn0 N)
def ZI : Nat -> Keep × Keep := anF [(2, ⟨[1, 3, 5, 6], [], [3, 5, 6], [], [((6, 0), 1)], [], [], [], true, none, []⟩, ⟨[1, 3, 5, 6, 7], [], [3, 5, 6], [], [((6, 0), 1)], [], [], [], false, none, []⟩), (6, ⟨[1, 3, 5, 6], [], [3, 5, 6], [], [((6, 0), 1)], [], [], [], true, none, []⟩, ⟨[1, 3, 5, 6, 7], [], [3, 5, 6], [], [((6, 0), 1)], [], [], [], false, none, []⟩), (18, ⟨[1, 3, 5, 6, 9], [], [3, 5, 6, 9], [], [((6, 0), 1)], [], [], [], true, none, []⟩, ⟨[1, 3, 5, 6, 9, 63], [], [3, 5, 6, 9], [], [((6, 0), 1)], [], [], [], false, none, []⟩), (27, ⟨[1, 3, 5, 6, 9, 95], [], [3, 5, 6, 9], [], [((6, 0), 1)], [], [], [], true, none, []⟩, ⟨[1, 3, 5, 6], [], [3, 5, 6], [], [((6, 0), 1)], [], [], [], false, none, []⟩)] [(100019, ([], [((10, 0), 1)]))]
def zoe (N : Nat) : GamK := gam (P := qP) [zyA N, zz8 N, zA8 N, zDs N, zAl N, zvq N, zBO N, zq3 N, zwd N]
def Jk (N : Nat) : LSpec where
 X := Int × Bool × qL × RT7 × qL × RT7
 Y := (Int × qL × RT7 × qL)
 p := fun s => rdS 120 0 [(1, .int .i64), (3, .ptr 3 0), (5, .ptr 5 0), (6, .ptr 6 0), (9, .ptr 9 0), (95, .bool)] [(3, .cells [.lst 1]), (5, .row RK7), (6, .cells [.tok 1 6401572864]), (9, .row RK7)] s fun ⟨a0, _, _, _, _, a1, _⟩ ⟨⟨a2, _⟩, a3, ⟨a4, _⟩, a5, _⟩ => (a0, a1, a2, a3, a4, a5)
 st := fun u27 => mkS 120 [(1, (qI u27.1)), (3, (AV.ptr 3 0)), (5, (AV.ptr 5 0)), (6, (AV.ptr 6 0)), (9, (AV.ptr 9 0)), (95, (AV.v (.bool u27.2.1)))] [(3, [(AV.list 1 u27.2.2.1 none)]), (5, (zN u27.2.2.2.1)), (6, [(AV.list 1 u27.2.2.2.2.1 (some 6401572864))]), (9, (zN u27.2.2.2.2.2))] (ZI 27).1.toks 0
 out := fun y => (.normal, mkS 120 [(1, (qI y.1)), (3, (AV.ptr 3 0)), (5, (AV.ptr 5 0)), (6, (AV.ptr 6 0))] [(3, [(AV.list 1 y.2.1 none)]), (5, (zN y.2.2.1)), (6, [(AV.list 1 y.2.2.2 (some 6401572864))])] (ZI 27).2.toks 0)
 b := fun u27 α kn ke => (match u27.2.1 with | true => (ke (u27.1, u27.2.2.1, (u27.2.2.2.1.1, u27.2.2.2.1.2.1, u27.2.2.2.1.2.2.1, u27.2.2.2.1.2.2.2.1, u27.2.2.2.2.2.2.2.2.2), u27.2.2.2.2.1)) | false => (ke (u27.1, u27.2.2.1, u27.2.2.2.1, u27.2.2.2.2.1)))
abbrev zqi (N : Nat) (x : Int × Bool × qL × RT7 × qL × RT7) : Option ((Int × qL × RT7 × qL)) := (Jk N).L N x
def jC (N : Nat) : LSpec where
 X := Int × qL × RT7 × qL × RT7
 Y := (Int × Bool × qL × RT7 × qL × RT7)
 p := fun s => rdS 120 0 [(1, .int .i64), (3, .ptr 3 0), (5, .ptr 5 0), (6, .ptr 6 0), (9, .ptr 9 0)] [(3, .cells [.lst 1]), (5, .row RK7), (6, .cells [.tok 1 6401572864]), (9, .row RK7)] s fun ⟨a0, _, _, _, _, _⟩ ⟨⟨a1, _⟩, a2, ⟨a3, _⟩, a4, _⟩ => (a0, a1, a2, a3, a4)
 st := fun u18 => mkS 120 [(1, (qI u18.1)), (3, (AV.ptr 3 0)), (5, (AV.ptr 5 0)), (6, (AV.ptr 6 0)), (9, (AV.ptr 9 0))] [(3, [(AV.list 1 u18.2.1 none)]), (5, (zN u18.2.2.1)), (6, [(AV.list 1 u18.2.2.2.1 (some 6401572864))]), (9, (zN u18.2.2.2.2))] (ZI 18).1.toks 0
 out := fun y => (.normal, mkS 120 [(1, (qI y.1)), (3, (AV.ptr 3 0)), (5, (AV.ptr 5 0)), (6, (AV.ptr 6 0)), (9, (AV.ptr 9 0)), (63, (AV.v (.bool y.2.1)))] [(3, [(AV.list 1 y.2.2.1 none)]), (5, (zN y.2.2.2.1)), (6, [(AV.list 1 y.2.2.2.2.1 (some 6401572864))]), (9, (zN y.2.2.2.2.2))] (ZI 18).2.toks 0)
 b := fun u18 α kn ke => (match (u18.2.2.1.1 == 5) with | true => (match (u18.2.2.1.2.2.2.1 == u18.1) with | true => (ke (u18.1, true, u18.2)) | false => (match (u18.2.2.1.1 == 6) with | true => (match zq2 N u18.2.2.2.2.1 with | some y30 => (ke (u18.1, y30, u18.2)) | none => none) | false => (ke (u18.1, false, u18.2)))) | false => (match (u18.2.2.1.1 == 6) with | true => (match zq2 N u18.2.2.2.2.1 with | some y31 => (ke (u18.1, y31, u18.2)) | none => none) | false => (ke (u18.1, false, u18.2))))
abbrev zhw (N : Nat) (x : Int × qL × RT7 × qL × RT7) : Option ((Int × Bool × qL × RT7 × qL × RT7)) := (jC N).L N x
def Jz (N : Nat) : LSpec where
 X := Int × qL × RT7 × qL
 Y := (Int × Int × qL × RT7 × qL) ⊕ (Int × qL × RT7 × qL)
 p := fun s => rdS 120 0 [(1, .int .i64), (3, .ptr 3 0), (5, .ptr 5 0), (6, .ptr 6 0)] [(3, .cells [.lst 1]), (5, .row RK7), (6, .cells [.tok 1 6401572864])] s fun ⟨a0, _, _, _, _⟩ ⟨⟨a1, _⟩, a2, ⟨a3, _⟩, _⟩ => (a0, a1, a2, a3)
 st := fun u6 => mkS 120 [(1, (qI u6.1)), (3, (AV.ptr 3 0)), (5, (AV.ptr 5 0)), (6, (AV.ptr 6 0))] [(3, [(AV.list 1 u6.2.1 none)]), (5, (zN u6.2.2.1)), (6, [(AV.list 1 u6.2.2.2 (some 6401572864))])] (ZI 6).1.toks 0
 out := fun y => match y with
  | .inl y => (.ret, mkS 120 [(1, (qI y.1)), (3, (AV.ptr 3 0)), (5, (AV.ptr 5 0)), (6, (AV.ptr 6 0)), (7, (qI y.2.1))] [(3, [(AV.list 1 y.2.2.1 none)]), (5, (zN y.2.2.2.1)), (6, [(AV.list 1 y.2.2.2.2 (some 6401572864))])] (ZI 6).2.toks 0)
  | .inr y => (.normal, mkS 120 [(1, (qI y.1)), (3, (AV.ptr 3 0)), (5, (AV.ptr 5 0)), (6, (AV.ptr 6 0))] [(3, [(AV.list 1 y.2.1 none)]), (5, (zN y.2.2.1)), (6, [(AV.list 1 y.2.2.2 (some 6401572864))])] (ZI 6).2.toks 0)
 b := fun u6 α kn ke => (match zpZ N (u6.2.1, u6.1) with | some y17 => (match (!y17) with | true => (ke (.inl (u6.1, 6, u6.2.1, u6.2.2.1, ([] : qL)))) | false => (match (u6.2.2.1.1 == 5) with | true => (match zpZ N (u6.2.1, u6.2.2.1.2.2.2.1) with | some y18 => (match (!y18) with | true => (ke (.inl (u6.1, 6, u6.2.1, u6.2.2.1, ([] : qL)))) | false => (ke (.inr u6))) | none => none) | false => (ke (.inr u6)))) | none => none)
abbrev zjI (N : Nat) (x : Int × qL × RT7 × qL) : Option ((Int × Int × qL × RT7 × qL) ⊕ (Int × qL × RT7 × qL)) := (Jz N).L N x
def zaq (N : Nat) : LSpec where
 X := Int × qL × RT7 × qL
 Y := (Int × Int × qL × RT7 × qL) ⊕ (Int × qL × RT7 × qL)
 p := fun s => rdS 120 0 [(1, .int .i64), (3, .ptr 3 0), (5, .ptr 5 0), (6, .ptr 6 0)] [(3, .cells [.lst 1]), (5, .row RK7), (6, .cells [.tok 1 6401572864])] s fun ⟨a0, _, _, _, _⟩ ⟨⟨a1, _⟩, a2, ⟨a3, _⟩, _⟩ => (a0, a1, a2, a3)
 st := fun u2 => mkS 120 [(1, (qI u2.1)), (3, (AV.ptr 3 0)), (5, (AV.ptr 5 0)), (6, (AV.ptr 6 0))] [(3, [(AV.list 1 u2.2.1 none)]), (5, (zN u2.2.2.1)), (6, [(AV.list 1 u2.2.2.2 (some 6401572864))])] (ZI 2).1.toks 0
 out := fun y => match y with
  | .inl y => (.ret, mkS 120 [(1, (qI y.1)), (3, (AV.ptr 3 0)), (5, (AV.ptr 5 0)), (6, (AV.ptr 6 0)), (7, (qI y.2.1))] [(3, [(AV.list 1 y.2.2.1 none)]), (5, (zN y.2.2.2.1)), (6, [(AV.list 1 y.2.2.2.2 (some 6401572864))])] (ZI 2).2.toks 0)
  | .inr y => (.normal, mkS 120 [(1, (qI y.1)), (3, (AV.ptr 3 0)), (5, (AV.ptr 5 0)), (6, (AV.ptr 6 0))] [(3, [(AV.list 1 y.2.1 none)]), (5, (zN y.2.2.1)), (6, [(AV.list 1 y.2.2.2 (some 6401572864))])] (ZI 2).2.toks 0)
 b := fun u2 α kn ke => (match zl4 N u2.2.1 with | some y7 => (match (!y7) with | true => (ke (.inl (u2.1, 1, u2.2.1, u2.2.2.1, ([] : qL)))) | false => (match zrr N u2.2.2.1.2.2.1 with | some y8 => (match (!y8) with | true => (ke (.inl (u2.1, 1, u2.2.1, u2.2.2.1, ([] : qL)))) | false => (match (u2.2.2.1.1 == 3) with | true => (match zld N (zx u2.2.2.1) with | some y9 => (match (!y9) with | true => (ke (.inl (u2.1, 1, u2.2.1, u2.2.2.1, ([] : qL)))) | false => (ke (.inr u2))) | none => none) | false => (ke (.inr u2)))) | none => none)) | none => none)
abbrev zv5 (N : Nat) (x : Int × qL × RT7 × qL) : Option ((Int × Int × qL × RT7 × qL) ⊕ (Int × qL × RT7 × qL)) := (zaq N).L N x
def zd4 (N : Nat) : FSpec where
 X := qL × Int × RT7
 Y := qL × Int
 ash := [[some 1], [none], [none, none, none, none, none, none, none, none, none, none, none, none, none, some 9, none, none, none, none, none, none, none, none, none, none, none, none, none, none, none]]
 S := ⟨[[some 1], [none]], [], [], [], []⟩
 pat := fun a b => zk a fun v1 c2 => jg v1 fun c3 => zk c3 fun c4 c5 => Z3 1 c4 fun a0 => zQ c5 <| zk c2 fun v6 c7 => jO .i64 v6 fun a1 => zk c7 fun v8 c9 => zwT RK7 v8 fun a2 => zQ c9 <| zQ b <| some (a0, a1, a2)
 args := fun x => [(AV.agg [(AV.list 1 x.1 none)]), (AV.v (.int .i64 x.2.1)), (AV.agg (zN x.2.2))]
 ret := fun y => ⟨(AV.tup [(AV.agg [(AV.list 1 y.1 none)]), (AV.v (.int .i64 y.2))]), [], none, [], [], [], none⟩
 t := fun x α k => (match zv5 N (x.2.1, x.1, x.2.2, ([] : qL)) with | some y10 => (match y10 with | .inl z11 => (k (z11.2.2.2.2, z11.2.1)) | .inr z12 => (match zjI N z12 with | some y19 => (match y19 with | .inl z20 => (k (z20.2.2.2.2, z20.2.1)) | .inr z21 => (match zrV N (z21.2.1, z21.2.2.1.2.1) with | some y22 => (match (y22 != 0) with | true => (k (([] : qL), y22)) | false => (if 0 <= z21.1 then (match z21.2.1[z21.1.toNat]? with | some c23 => (match zfU c23 with | some e24 => (match zmg N e24.1 with | some y25 => (match zhw N (z21.1, z21.2.1, z21.2.2.1, z21.2.2.2, y25) with | some y32 => (match y32.2.1 with | true => (k (([] : qL), 10)) | false => (if 0 <= y32.1 then (match y32.2.2.1[y32.1.toNat]? with | some c33 => (match (c33.drop 0)[0]? with | some x34 => (match Z2 29 x34 with | some l35 => (match ((l35.length : Int) == 100) with | true => (k (([] : qL), 8)) | false => (if 0 <= y32.2.2.2.1.1 /\ y32.2.2.2.1.1 < 7 then (match ((gtab2.map AV.v).drop (y32.2.2.2.1.1.toNat * 1))[0]? with | some x36 => (match x36 with | .v (.bool b37) => (match zqi N (y32.1, b37, y32.2.2) with | some y38 => (match zcQ N (zx y38.2.2.1) with | some y39 => (match zjD N y38.2.1 with | some y40 => (if 0 <= y38.1 /\ y38.1 < (y40.1 : Int) then (match (y40.2.1.map (datJ y40.2.2.1 y40.2.2.2))[(((0 + y38.1.toNat) * 1) + 0)]? with | some c41 => (match c41 with | .list n42 l43 (some q44) => (if n42 = 29 /\ q44 = TOB + (((0 + y38.1.toNat) * 1) + 0) /\ y40.2.2.1 <= (((0 + y38.1.toNat) * 1) + 0) /\ (((0 + y38.1.toNat) * 1) + 0) < y40.2.2.2 then (if (l43.length + [(zN (y38.2.2.1.1, y38.2.2.1.2.1, y38.2.2.1.2.2.1, y38.2.2.1.2.2.2.1, y39))].length) * 288 <= zh then (if 0 <= y38.1 /\ y38.1 < (y40.1 : Int) then (if (((0 + y38.1.toNat) * 1) + 0) + 1 <= (y40.2.1.map (datJ y40.2.2.1 y40.2.2.2)).length then (if y40.1 * 1 <= (splice (y40.2.1.map (datJ y40.2.2.1 y40.2.2.2)) (((0 + y38.1.toNat) * 1) + 0) [(AV.list 29 (l43 ++ [(zN (y38.2.2.1.1, y38.2.2.1.2.1, y38.2.2.1.2.2.1, y38.2.2.1.2.2.2.1, y39))]) (some 7424))]).length then (k ((zK ((splice (y40.2.1.map (datJ y40.2.2.1 y40.2.2.2)) (((0 + y38.1.toNat) * 1) + 0) [(AV.list 29 (l43 ++ [(zN (y38.2.2.1.1, y38.2.2.1.2.1, y38.2.2.1.2.2.1, y38.2.2.1.2.2.2.1, y39))]) (some 7424))]).take (y40.1 * 1)) 1 y40.1), 0)) else none) else none) else none) else none) else none) | _ => none) | none => none) else none) | none => none) | none => none) | none => none) | _ => none) | none => none) else none)) | none => none) | none => none) | none => none) else none)) | none => none) | none => none) | none => none) | none => none) else none)) | none => none)) | none => none)) | none => none)
abbrev JB (N : Nat) (x : qL × Int × RT7) : Option (qL × Int) := (zd4 N).d x
def Jc (N : Nat) : List (Nat × LSpec) := [(2, zaq N), (6, Jz N), (18, jC N), (27, Jk N)]
def zak : Code := Tryd.f53.body.getD .skip
theorem zns (N : Nat) : Par (Jk N).b := by
 intro x α β kn ke kn' ke' r r' h h1 h2
 revert h
 dsimp only [Jk]
 (repeat' (first | (with_reducible refine ze ?_ ?_) | split)) <;> intro h <;> first | exact h1 _ h | exact h2 _ h | cases h
theorem zlE (N : Nat) : zlV (JT qP [104, 113]) (zoe N) ZI N (Jc N) 27 zak (Jk N) := fun x α kn ke => by kernel_rfl
theorem zk0 (N : Nat) : ZK qP ZI N (Jc N) 27 (zc 27 zak) :=
 j6 (zL qP [104, 113]) (zi _) zl ZI N (Jc N) 27 zak (l := []) (by kernel_rfl) an (Jk N) rfl (fun s x hc h => by dsimp only [Jk] at h; exact zJ hc h (fun _ _ => rfl) rfl rfl rfl) (zlE N) (zns N)
theorem zoZ (N : Nat) : Par (jC N).b := by
 intro x α β kn ke kn' ke' r r' h h1 h2
 revert h
 dsimp only [jC]
 (repeat' (first | (with_reducible refine ze ?_ ?_) | split)) <;> intro h <;> first | exact h1 _ h | exact h2 _ h | cases h
theorem zll (N : Nat) : zlV (JT qP [104, 113]) (zoe N) ZI N (Jc N) 18 zak (jC N) := fun x α kn ke => by kernel_rfl
theorem zlg (N : Nat) : ZK qP ZI N (Jc N) 18 (zc 18 zak) :=
 j6 (zL qP [104, 113]) (zi _) zl ZI N (Jc N) 18 zak (l := []) (by kernel_rfl) an (jC N) rfl (fun s x hc h => by dsimp only [jC] at h; exact zJ hc h (fun _ _ => rfl) rfl rfl rfl) (zll N) (zoZ N)
theorem zr3 (N : Nat) : Par (Jz N).b := by
 intro x α β kn ke kn' ke' r r' h h1 h2
 revert h
 dsimp only [Jz]
 (repeat' (first | (with_reducible refine ze ?_ ?_) | split)) <;> intro h <;> first | exact h1 _ h | exact h2 _ h | cases h
theorem zmH (N : Nat) : zlV (JT qP [104, 113]) (zoe N) ZI N (Jc N) 6 zak (Jz N) := fun x α kn ke => by kernel_rfl
theorem zm1 (N : Nat) : ZK qP ZI N (Jc N) 6 (zc 6 zak) :=
 j6 (zL qP [104, 113]) (zi _) zl ZI N (Jc N) 6 zak (l := []) (by kernel_rfl) an (Jz N) rfl (fun s x hc h => by dsimp only [Jz] at h; exact zJ hc h (fun _ _ => rfl) rfl rfl rfl) (zmH N) (zr3 N)
theorem zs7 (N : Nat) : Par (zaq N).b := by
 intro x α β kn ke kn' ke' r r' h h1 h2
 revert h
 dsimp only [zaq]
 (repeat' (first | (with_reducible refine ze ?_ ?_) | split)) <;> intro h <;> first | exact h1 _ h | exact h2 _ h | cases h
theorem zn6 (N : Nat) : zlV (JT qP [104, 113]) (zoe N) ZI N (Jc N) 2 zak (zaq N) := fun x α kn ke => by kernel_rfl
theorem znW (N : Nat) : ZK qP ZI N (Jc N) 2 (zc 2 zak) :=
 j6 (zL qP [104, 113]) (zi _) zl ZI N (Jc N) 2 zak (l := []) (by kernel_rfl) an (zaq N) rfl (fun s x hc h => by dsimp only [zaq] at h; exact zJ hc h (fun _ _ => rfl) rfl rfl rfl) (zn6 N) (zs7 N)
theorem zrb (N : Nat) : Zd (zd4 N).t := by
 intro x α β k k' r r' h h1
 revert h
 dsimp only [zd4]
 (repeat' (first | (with_reducible refine ze ?_ ?_) | split)) <;> intro h <;> first | exact h1 _ h | cases h
theorem zsT (N : Nat) : Zh (JT qP [104, 113]) (zoe N) ZI (lam N (Jc N)) Tryd.f53 (zd4 N) := fun x => by kernel_rfl
theorem zzt (N : Nat) (a : List AV) (b : qL) (x : (zd4 N).X) (h : (zd4 N).pat a b = some x) : a = (zd4 N).args x /\ b = (zd4 N).bs x := by
 obtain ⟨v1, c2, rfl, g0⟩ := zb (show zk _ _ = some x from h)
 obtain ⟨c3, rfl, g1⟩ := zR g0; clear g0
 obtain ⟨c4, c5, rfl, g2⟩ := zb g1; clear g1
 obtain ⟨a0, rfl, g3⟩ := zr g2; clear g2
 obtain ⟨rfl, g4⟩ := zg g3; clear g3
 obtain ⟨v6, c7, rfl, g5⟩ := zb g4; clear g4
 obtain ⟨a1, rfl, g6⟩ := zC g5; clear g5
 obtain ⟨v8, c9, rfl, g7⟩ := zb g6; clear g6
 obtain ⟨a2, rfl, g8⟩ := zdL g7; clear g7
 obtain ⟨rfl, g9⟩ := zg g8; clear g8
 obtain ⟨rfl, g10⟩ := zg g9; clear g9
 clear h
 cases g10
 exact ⟨rfl, rfl⟩
def zsC (N : Nat) : Ent qP := zA (zL qP [104, 113]) (zi _) zl 53 Tryd.f53 Tryd.func53 rfl ZI (lam N (Jc N)) (zm (l := [(2, zc 2 zak), (6, zc 6 zak), (18, zc 18 zak), (27, zc 27 zak)]) (al (znW N) (al (zm1 N) (al (zlg N) (al (zk0 N) an)))) (by kernel_rfl)) (zd4 N) (fun _ => ⟨rfl, rfl⟩) (zsT N) (zzt N) (zrb N)
def Zk : Nat -> Keep × Keep := anF [(16, ⟨[2, 6, 10, 12, 43, 44], [(11, 1)], [6, 10, 36, 39], [(1, 25), (42, 1)], [((6, 0), 1)], [], [], [36, 39], false, some 36, []⟩, ⟨[2, 6, 8, 10, 12], [(11, 1)], [6, 10, 36, 39], [(1, 25), (7, 1)], [((6, 0), 1)], [], [], [36, 39], false, some 36, []⟩), (27, ⟨[2, 6, 10, 12, 13, 14, 15, 16, 43, 44, 58], [(11, 1)], [6, 10, 16, 36, 39], [(1, 25), (42, 1)], [((6, 0), 1)], [], [], [36, 39], true, some 36, []⟩, ⟨[2, 6, 10, 12, 13, 14, 15, 16, 43, 44], [(11, 1)], [6, 10, 16, 36, 39], [(1, 25), (42, 1)], [((6, 0), 1)], [], [], [36, 39], false, some 36, []⟩), (33, ⟨[2, 6, 10, 12, 13, 14, 15, 16, 43, 44, 81], [(11, 1)], [6, 10, 16, 36, 39], [(1, 25), (42, 1)], [((6, 0), 1)], [], [], [36, 39], true, some 36, []⟩, ⟨[2, 6, 10, 12, 13, 15, 43, 44], [(11, 1)], [6, 10, 36, 39], [(1, 25), (42, 1)], [((6, 0), 1)], [], [], [36, 39], false, some 36, []⟩), (35, ⟨[2, 6, 10, 12, 13, 14, 15, 16, 43, 44], [(11, 1)], [6, 10, 16, 36, 39], [(1, 25), (42, 1)], [((6, 0), 1)], [], [], [36, 39], true, some 36, []⟩, ⟨[2, 6, 10, 12, 13, 14, 15, 43, 44], [(11, 1)], [6, 10, 36, 39], [(1, 25), (42, 1)], [((6, 0), 1)], [], [], [36, 39], false, some 36, []⟩), (46, ⟨[2, 6, 10, 12, 130, 131], [(11, 1)], [6, 10, 39], [(129, 25)], [((6, 0), 1)], [], [((10, 0), 1)], [39], false, none, []⟩, ⟨[6, 10], [(11, 1)], [6, 10], [], [((6, 0), 1)], [], [((10, 0), 1)], [], false, none, []⟩)] [(100035, ([], [((10, 0), 1)]))]
def zj3 (N : Nat) : GamK := gam (P := qP) [zyA N, zAm N, zAl N, zwd N, zDn N, zvq N, zBO N, zAX N, zq3 N]
def ZE (N : Nat) : LSpec where
 X := qL × qL × Int × Nat × Int × Int × qL × Nat × qA × qA
 Y := (qL × qL × Nat × qA)
 p := fun s => rdS 166 0 [(11, .tok 1 1280000704), (129, .lst 25), (2, .int .i64), (6, .ptr 6 0), (10, .ptr 10 0), (12, .vs0 39 1), (130, .int .i64), (131, .int .i64)] [(6, .cells [.tok 1 6401572864]), (10, .cells [.vs0 2040960 1]), (39, .tt), (2040960, .tt)] s fun ⟨a0, a1, a2, _, _, a3, a4, a5, _⟩ ⟨⟨a6, _⟩, ⟨a7, _⟩, a8, a9, _⟩ => (a0, a1, a2, a3, a4, a5, a6, a7, a8, a9)
 st := fun u46 => mkS 166 [(11, (AV.list 1 u46.1 (some 1280000704))), (129, (AV.list 25 u46.2.1 none)), (2, (qI u46.2.2.1)), (6, (AV.ptr 6 0)), (10, (AV.ptr 10 0)), (12, (AV.vs 39 0 u46.2.2.2.1 1)), (130, (qI u46.2.2.2.2.1)), (131, (qI u46.2.2.2.2.2.1))] [(6, [(AV.list 1 u46.2.2.2.2.2.2.1 (some 6401572864))]), (10, [(AV.vs 2040960 0 u46.2.2.2.2.2.2.2.1 1)]), (39, u46.2.2.2.2.2.2.2.2.1), (2040960, u46.2.2.2.2.2.2.2.2.2)] (Zk 46).1.toks 0
 out := fun y => (.exit 3, mkS 166 [(11, (AV.list 1 y.1 (some 1280000704))), (6, (AV.ptr 6 0)), (10, (AV.ptr 10 0))] [(6, [(AV.list 1 y.2.1 (some 6401572864))]), (10, [(AV.vs 2040960 0 y.2.2.1 1)]), (2040960, y.2.2.2)] (Zk 46).2.toks 0)
 b := fun u46 α kn ke => (match (decide (u46.2.2.2.2.2.1 < u46.2.2.2.2.1)) with | true => (if 0 <= u46.2.2.2.2.2.1 then (match u46.2.1[u46.2.2.2.2.2.1.toNat]? with | some c100 => (match zji c100 with | some e101 => (if 0 <= u46.2.2.2.2.2.1 /\ u46.2.2.2.2.2.1 < (u46.2.2.2.1 : Int) then (match u46.2.2.2.2.2.2.2.2.1[((0 + u46.2.2.2.2.2.1.toNat) * 1)]? with | some x102 => (match x102 with | .v (.bool b103) => (match (!b103) with | true => (if (u46.1.length + [[(AV.v (.int .i64 ((u46.2.2.2.2.2.2.2.1 : Nat) : Int)))]].length) * 8 <= zh then (match zcQ N e101 with | some y104 => (if u46.2.2.2.2.2.2.2.1 * 1 <= u46.2.2.2.2.2.2.2.2.2.length /\ (u46.2.2.2.2.2.2.2.1 + [[(AV.list 29 [(zN (1, u46.2.2.1, (⟨#[]⟩ : ByteArray), 0, y104))] none)]].length) * 24 <= zh then (kn ((u46.1 ++ [[(AV.v (.int .i64 ((u46.2.2.2.2.2.2.2.1 : Nat) : Int)))]]), u46.2.1, u46.2.2.1, u46.2.2.2.1, u46.2.2.2.2.1, (i64 (u46.2.2.2.2.2.1 + 1)), u46.2.2.2.2.2.2.1, (u46.2.2.2.2.2.2.2.1 + [[(AV.list 29 [(zN (1, u46.2.2.1, (⟨#[]⟩ : ByteArray), 0, y104))] none)]].length), (u46.2.2.2.2.2.2.2.2.1.map dat0), ((u46.2.2.2.2.2.2.2.2.2.take (u46.2.2.2.2.2.2.2.1 * 1) ++ [[(AV.list 29 [(zN (1, u46.2.2.1, (⟨#[]⟩ : ByteArray), 0, y104))] none)]].flatten).map dat0))) else none) | none => none) else none) | false => (kn (u46.1, u46.2.1, u46.2.2.1, u46.2.2.2.1, u46.2.2.2.2.1, (i64 (u46.2.2.2.2.2.1 + 1)), u46.2.2.2.2.2.2.1, u46.2.2.2.2.2.2.2.1, (u46.2.2.2.2.2.2.2.2.1.map dat0), (u46.2.2.2.2.2.2.2.2.2.map dat0)))) | _ => none) | none => none) else none) | none => none) | none => none) else none) | false => (ke (u46.1, u46.2.2.2.2.2.2.1, u46.2.2.2.2.2.2.2.1, (u46.2.2.2.2.2.2.2.2.2.map dat0))))
abbrev zml (N : Nat) (x : qL × qL × Int × Nat × Int × Int × qL × Nat × qA × qA) : Option ((qL × qL × Nat × qA)) := (ZE N).L N x
def jy (N : Nat) : LSpec where
 X := qL × qL × qL × Int × Nat × Int × Int × Nat × Int × Int × qL × Nat × RT7 × qA × qA × Nat × Nat
 Y := (qL × qL × qL × Int × Nat × Int × Int × Nat × Int × Int × qL × Nat × qA × qA × Nat × Nat) ⊕ (qL × qL × qL × Int × Nat × Int × Int × Nat × Int × Int × qL × Nat × qA × qA × Nat × Nat)
 p := fun s => rdF 166 0 36 [(11, .tok 1 1280000704), (1, .lst 25), (42, .lst 1), (2, .int .i64), (6, .ptr 6 0), (10, .ptr 10 0), (12, .vs0 39 1), (13, .int .i64), (14, .int .i64), (15, .ptrV 36), (16, .ptr 16 0), (43, .int .i64), (44, .int .i64)] [(6, .cells [.tok 1 6401572864]), (10, .cells [.vs0 36 1]), (16, .row RK7), (36, .tt), (39, .tt)] s fun ⟨a0, a1, a2, a3, _, _, a4, a5, a6, a7, _, a8, a9, _⟩ ⟨⟨a10, _⟩, ⟨a11, _⟩, a12, a13, a14, _⟩ a15 a16 => (a0, a1, a2, a3, a4, a5, a6, a7, a8, a9, a10, a11, a12, a13, a14, a15, a16)
 st := fun u35 => mkF 166 [(11, (AV.list 1 u35.1 (some 1280000704))), (1, (AV.list 25 u35.2.1 none)), (42, (AV.list 1 u35.2.2.1 none)), (2, (qI u35.2.2.2.1)), (6, (AV.ptr 6 0)), (10, (AV.ptr 10 0)), (12, (AV.vs 39 0 u35.2.2.2.2.1 1)), (13, (qI u35.2.2.2.2.2.1)), (14, (qI u35.2.2.2.2.2.2.1)), (15, (AV.ptr 36 u35.2.2.2.2.2.2.2.1)), (16, (AV.ptr 16 0)), (43, (qI u35.2.2.2.2.2.2.2.2.1)), (44, (qI u35.2.2.2.2.2.2.2.2.2.1))] [(6, [(AV.list 1 u35.2.2.2.2.2.2.2.2.2.2.1 (some 6401572864))]), (10, [(AV.vs 36 0 u35.2.2.2.2.2.2.2.2.2.2.2.1 1)]), (16, (zN u35.2.2.2.2.2.2.2.2.2.2.2.2.1)), (36, u35.2.2.2.2.2.2.2.2.2.2.2.2.2.1), (39, u35.2.2.2.2.2.2.2.2.2.2.2.2.2.2.1)] (Zk 35).1.toks 0 (some (36, u35.2.2.2.2.2.2.2.2.2.2.2.2.2.2.2.1, u35.2.2.2.2.2.2.2.2.2.2.2.2.2.2.2.2))
 out := fun y => match y with
  | .inl y => (.exit 1, mkF 166 [(11, (AV.list 1 y.1 (some 1280000704))), (1, (AV.list 25 y.2.1 none)), (42, (AV.list 1 y.2.2.1 none)), (2, (qI y.2.2.2.1)), (6, (AV.ptr 6 0)), (10, (AV.ptr 10 0)), (12, (AV.vs 39 0 y.2.2.2.2.1 1)), (13, (qI y.2.2.2.2.2.1)), (14, (qI y.2.2.2.2.2.2.1)), (15, (AV.ptr 36 y.2.2.2.2.2.2.2.1)), (43, (qI y.2.2.2.2.2.2.2.2.1)), (44, (qI y.2.2.2.2.2.2.2.2.2.1))] [(6, [(AV.list 1 y.2.2.2.2.2.2.2.2.2.2.1 (some 6401572864))]), (10, [(AV.vs 36 0 y.2.2.2.2.2.2.2.2.2.2.2.1 1)]), (36, y.2.2.2.2.2.2.2.2.2.2.2.2.1), (39, y.2.2.2.2.2.2.2.2.2.2.2.2.2.1)] (Zk 35).2.toks 0 (some (36, y.2.2.2.2.2.2.2.2.2.2.2.2.2.2.1, y.2.2.2.2.2.2.2.2.2.2.2.2.2.2.2)))
  | .inr y => (.normal, mkF 166 [(11, (AV.list 1 y.1 (some 1280000704))), (1, (AV.list 25 y.2.1 none)), (42, (AV.list 1 y.2.2.1 none)), (2, (qI y.2.2.2.1)), (6, (AV.ptr 6 0)), (10, (AV.ptr 10 0)), (12, (AV.vs 39 0 y.2.2.2.2.1 1)), (13, (qI y.2.2.2.2.2.1)), (14, (qI y.2.2.2.2.2.2.1)), (15, (AV.ptr 36 y.2.2.2.2.2.2.2.1)), (43, (qI y.2.2.2.2.2.2.2.2.1)), (44, (qI y.2.2.2.2.2.2.2.2.2.1))] [(6, [(AV.list 1 y.2.2.2.2.2.2.2.2.2.2.1 (some 6401572864))]), (10, [(AV.vs 36 0 y.2.2.2.2.2.2.2.2.2.2.2.1 1)]), (36, y.2.2.2.2.2.2.2.2.2.2.2.2.1), (39, y.2.2.2.2.2.2.2.2.2.2.2.2.2.1)] (Zk 35).2.toks 0 (some (36, y.2.2.2.2.2.2.2.2.2.2.2.2.2.2.1, y.2.2.2.2.2.2.2.2.2.2.2.2.2.2.2)))
 b := fun u35 α kn ke => (if 0 <= u35.2.2.2.2.2.2.2.2.2.2.2.2.1.1 /\ u35.2.2.2.2.2.2.2.2.2.2.2.2.1.1 < 7 then (match ((gtab0.map AV.v).drop (u35.2.2.2.2.2.2.2.2.2.2.2.2.1.1.toNat * 1))[0]? with | some x24 => (match x24 with | .v (.bool b25) => (match b25 with | true => (if 0 <= u35.2.2.2.2.2.2.1 then (match u35.2.1[u35.2.2.2.2.2.2.1.toNat]? with | some c26 => (match zji c26 with | some e27 => (match zlr N ((zx u35.2.2.2.2.2.2.2.2.2.2.2.2.1), e27) with | some y28 => (match y28 with | true => (ke (.inl (u35.1, u35.2.1, u35.2.2.1, u35.2.2.2.1, u35.2.2.2.2.1, u35.2.2.2.2.2.1, u35.2.2.2.2.2.2.1, u35.2.2.2.2.2.2.2.1, u35.2.2.2.2.2.2.2.2.1, u35.2.2.2.2.2.2.2.2.2.1, u35.2.2.2.2.2.2.2.2.2.2.1, u35.2.2.2.2.2.2.2.2.2.2.2.1, (u35.2.2.2.2.2.2.2.2.2.2.2.2.2.1.map datF), (u35.2.2.2.2.2.2.2.2.2.2.2.2.2.2.1.map dat0), u35.2.2.2.2.2.2.2.2.2.2.2.2.2.2.2))) | false => (ke (.inr (u35.1, u35.2.1, u35.2.2.1, u35.2.2.2.1, u35.2.2.2.2.1, u35.2.2.2.2.2.1, u35.2.2.2.2.2.2.1, u35.2.2.2.2.2.2.2.1, u35.2.2.2.2.2.2.2.2.1, u35.2.2.2.2.2.2.2.2.2.1, u35.2.2.2.2.2.2.2.2.2.2.1, u35.2.2.2.2.2.2.2.2.2.2.2.1, (u35.2.2.2.2.2.2.2.2.2.2.2.2.2.1.map datF), (u35.2.2.2.2.2.2.2.2.2.2.2.2.2.2.1.map dat0), u35.2.2.2.2.2.2.2.2.2.2.2.2.2.2.2)))) | none => none) | none => none) | none => none) else none) | false => (ke (.inr (u35.1, u35.2.1, u35.2.2.1, u35.2.2.2.1, u35.2.2.2.2.1, u35.2.2.2.2.2.1, u35.2.2.2.2.2.2.1, u35.2.2.2.2.2.2.2.1, u35.2.2.2.2.2.2.2.2.1, u35.2.2.2.2.2.2.2.2.2.1, u35.2.2.2.2.2.2.2.2.2.2.1, u35.2.2.2.2.2.2.2.2.2.2.2.1, (u35.2.2.2.2.2.2.2.2.2.2.2.2.2.1.map datF), (u35.2.2.2.2.2.2.2.2.2.2.2.2.2.2.1.map dat0), u35.2.2.2.2.2.2.2.2.2.2.2.2.2.2.2)))) | _ => none) | none => none) else none)
abbrev zfe (N : Nat) (x : qL × qL × qL × Int × Nat × Int × Int × Nat × Int × Int × qL × Nat × RT7 × qA × qA × Nat × Nat) : Option ((qL × qL × qL × Int × Nat × Int × Int × Nat × Int × Int × qL × Nat × qA × qA × Nat × Nat) ⊕ (qL × qL × qL × Int × Nat × Int × Int × Nat × Int × Int × qL × Nat × qA × qA × Nat × Nat)) := (jy N).L N x
def jm (N : Nat) : LSpec where
 X := qL × qL × qL × Int × Nat × Int × Int × Nat × Int × Int × Bool × qL × Nat × RT7 × qA × qA × Nat × Nat
 Y := (qL × qL × qL × Int × Nat × Int × Nat × Int × Int × qL × Nat × qA × qA × Nat × Nat) ⊕ (qL × qL × qL × Int × Nat × Int × Nat × Int × Int × qL × Nat × qA × qA × Nat × Nat)
 p := fun s => rdF 166 0 36 [(11, .tok 1 1280000704), (1, .lst 25), (42, .lst 1), (2, .int .i64), (6, .ptr 6 0), (10, .ptr 10 0), (12, .vs0 39 1), (13, .int .i64), (14, .int .i64), (15, .ptrV 36), (16, .ptr 16 0), (43, .int .i64), (44, .int .i64), (81, .bool)] [(6, .cells [.tok 1 6401572864]), (10, .cells [.vs0 36 1]), (16, .row RK7), (36, .tt), (39, .tt)] s fun ⟨a0, a1, a2, a3, _, _, a4, a5, a6, a7, _, a8, a9, a10, _⟩ ⟨⟨a11, _⟩, ⟨a12, _⟩, a13, a14, a15, _⟩ a16 a17 => (a0, a1, a2, a3, a4, a5, a6, a7, a8, a9, a10, a11, a12, a13, a14, a15, a16, a17)
 st := fun u33 => mkF 166 [(11, (AV.list 1 u33.1 (some 1280000704))), (1, (AV.list 25 u33.2.1 none)), (42, (AV.list 1 u33.2.2.1 none)), (2, (qI u33.2.2.2.1)), (6, (AV.ptr 6 0)), (10, (AV.ptr 10 0)), (12, (AV.vs 39 0 u33.2.2.2.2.1 1)), (13, (qI u33.2.2.2.2.2.1)), (14, (qI u33.2.2.2.2.2.2.1)), (15, (AV.ptr 36 u33.2.2.2.2.2.2.2.1)), (16, (AV.ptr 16 0)), (43, (qI u33.2.2.2.2.2.2.2.2.1)), (44, (qI u33.2.2.2.2.2.2.2.2.2.1)), (81, (AV.v (.bool u33.2.2.2.2.2.2.2.2.2.2.1)))] [(6, [(AV.list 1 u33.2.2.2.2.2.2.2.2.2.2.2.1 (some 6401572864))]), (10, [(AV.vs 36 0 u33.2.2.2.2.2.2.2.2.2.2.2.2.1 1)]), (16, (zN u33.2.2.2.2.2.2.2.2.2.2.2.2.2.1)), (36, u33.2.2.2.2.2.2.2.2.2.2.2.2.2.2.1), (39, u33.2.2.2.2.2.2.2.2.2.2.2.2.2.2.2.1)] (Zk 33).1.toks 0 (some (36, u33.2.2.2.2.2.2.2.2.2.2.2.2.2.2.2.2.1, u33.2.2.2.2.2.2.2.2.2.2.2.2.2.2.2.2.2))
 out := fun y => match y with
  | .inl y => (.exit 1, mkF 166 [(11, (AV.list 1 y.1 (some 1280000704))), (1, (AV.list 25 y.2.1 none)), (42, (AV.list 1 y.2.2.1 none)), (2, (qI y.2.2.2.1)), (6, (AV.ptr 6 0)), (10, (AV.ptr 10 0)), (12, (AV.vs 39 0 y.2.2.2.2.1 1)), (13, (qI y.2.2.2.2.2.1)), (15, (AV.ptr 36 y.2.2.2.2.2.2.1)), (43, (qI y.2.2.2.2.2.2.2.1)), (44, (qI y.2.2.2.2.2.2.2.2.1))] [(6, [(AV.list 1 y.2.2.2.2.2.2.2.2.2.1 (some 6401572864))]), (10, [(AV.vs 36 0 y.2.2.2.2.2.2.2.2.2.2.1 1)]), (36, y.2.2.2.2.2.2.2.2.2.2.2.1), (39, y.2.2.2.2.2.2.2.2.2.2.2.2.1)] (Zk 33).2.toks 0 (some (36, y.2.2.2.2.2.2.2.2.2.2.2.2.2.1, y.2.2.2.2.2.2.2.2.2.2.2.2.2.2)))
  | .inr y => (.normal, mkF 166 [(11, (AV.list 1 y.1 (some 1280000704))), (1, (AV.list 25 y.2.1 none)), (42, (AV.list 1 y.2.2.1 none)), (2, (qI y.2.2.2.1)), (6, (AV.ptr 6 0)), (10, (AV.ptr 10 0)), (12, (AV.vs 39 0 y.2.2.2.2.1 1)), (13, (qI y.2.2.2.2.2.1)), (15, (AV.ptr 36 y.2.2.2.2.2.2.1)), (43, (qI y.2.2.2.2.2.2.2.1)), (44, (qI y.2.2.2.2.2.2.2.2.1))] [(6, [(AV.list 1 y.2.2.2.2.2.2.2.2.2.1 (some 6401572864))]), (10, [(AV.vs 36 0 y.2.2.2.2.2.2.2.2.2.2.1 1)]), (36, y.2.2.2.2.2.2.2.2.2.2.2.1), (39, y.2.2.2.2.2.2.2.2.2.2.2.2.1)] (Zk 33).2.toks 0 (some (36, y.2.2.2.2.2.2.2.2.2.2.2.2.2.1, y.2.2.2.2.2.2.2.2.2.2.2.2.2.2)))
 b := fun u33 α kn ke => (match u33.2.2.2.2.2.2.2.2.2.2.1 with | true => (match zfe N (u33.1, u33.2.1, u33.2.2.1, u33.2.2.2.1, u33.2.2.2.2.1, u33.2.2.2.2.2.1, u33.2.2.2.2.2.2.1, u33.2.2.2.2.2.2.2.1, u33.2.2.2.2.2.2.2.2.1, u33.2.2.2.2.2.2.2.2.2.1, u33.2.2.2.2.2.2.2.2.2.2.2.1, u33.2.2.2.2.2.2.2.2.2.2.2.2.1, u33.2.2.2.2.2.2.2.2.2.2.2.2.2.1, (u33.2.2.2.2.2.2.2.2.2.2.2.2.2.2.1.map datF), (u33.2.2.2.2.2.2.2.2.2.2.2.2.2.2.2.1.map dat0), u33.2.2.2.2.2.2.2.2.2.2.2.2.2.2.2.2) with | some y59 => (match y59 with | .inl z60 => (ke (.inl (z60.1, z60.2.1, z60.2.2.1, z60.2.2.2.1, z60.2.2.2.2.1, z60.2.2.2.2.2.1, z60.2.2.2.2.2.2.2.1, z60.2.2.2.2.2.2.2.2.1, z60.2.2.2.2.2.2.2.2.2.1, z60.2.2.2.2.2.2.2.2.2.2.1, z60.2.2.2.2.2.2.2.2.2.2.2.1, (z60.2.2.2.2.2.2.2.2.2.2.2.2.1.map datF), (z60.2.2.2.2.2.2.2.2.2.2.2.2.2.1.map dat0), z60.2.2.2.2.2.2.2.2.2.2.2.2.2.2))) | .inr z61 => (match z61.2.2.2.2.2.2.2.2.2.2.2.2.1[(z61.2.2.2.2.2.2.2.1 + 0)]? with | some c62 => (match c62 with | .list n63 l64 (some q65) => (if n63 = 29 /\ q65 = TOB + (z61.2.2.2.2.2.2.2.1 + 0) /\ z61.2.2.2.2.2.2.2.2.2.2.2.2.2.2.1 <= (z61.2.2.2.2.2.2.2.1 + 0) /\ (z61.2.2.2.2.2.2.2.1 + 0) < z61.2.2.2.2.2.2.2.2.2.2.2.2.2.2.2 then (if 0 <= z61.2.2.2.2.2.2.1 then (match z61.2.1[z61.2.2.2.2.2.2.1.toNat]? with | some c66 => (match zji c66 with | some e67 => (match zcQ N e67 with | some y68 => (if (l64.length + [(zN (1, z61.2.2.2.1, (⟨#[]⟩ : ByteArray), 0, y68))].length) * 288 <= zh then (if (z61.2.2.2.2.2.2.2.1 + 0) + 1 <= z61.2.2.2.2.2.2.2.2.2.2.2.2.1.length then (ke (.inr (z61.1, z61.2.1, z61.2.2.1, z61.2.2.2.1, z61.2.2.2.2.1, z61.2.2.2.2.2.1, z61.2.2.2.2.2.2.2.1, z61.2.2.2.2.2.2.2.2.1, z61.2.2.2.2.2.2.2.2.2.1, z61.2.2.2.2.2.2.2.2.2.2.1, z61.2.2.2.2.2.2.2.2.2.2.2.1, ((splice z61.2.2.2.2.2.2.2.2.2.2.2.2.1 (z61.2.2.2.2.2.2.2.1 + 0) [(AV.list 29 (l64 ++ [(zN (1, z61.2.2.2.1, (⟨#[]⟩ : ByteArray), 0, y68))]) (some 7040))]).map datF), (z61.2.2.2.2.2.2.2.2.2.2.2.2.2.1.map dat0), ((z61.2.2.2.2.2.2.2.1 + 0) + 1), z61.2.2.2.2.2.2.2.2.2.2.2.2.2.2.2))) else none) else none) | none => none) | none => none) | none => none) else none) else none) | _ => none) | none => none)) | none => none) | false => (match (u33.2.2.2.2.2.2.2.2.2.2.2.2.2.1.1 == 2) with | true => (ke (.inl (u33.1, u33.2.1, u33.2.2.1, u33.2.2.2.1, u33.2.2.2.2.1, u33.2.2.2.2.2.1, u33.2.2.2.2.2.2.2.1, u33.2.2.2.2.2.2.2.2.1, u33.2.2.2.2.2.2.2.2.2.1, u33.2.2.2.2.2.2.2.2.2.2.2.1, u33.2.2.2.2.2.2.2.2.2.2.2.2.1, (u33.2.2.2.2.2.2.2.2.2.2.2.2.2.2.1.map datF), (u33.2.2.2.2.2.2.2.2.2.2.2.2.2.2.2.1.map dat0), u33.2.2.2.2.2.2.2.2.2.2.2.2.2.2.2.2))) | false => (match u33.2.2.2.2.2.2.2.2.2.2.2.2.2.2.1[(u33.2.2.2.2.2.2.2.1 + 0)]? with | some c69 => (match c69 with | .list n70 l71 (some q72) => (if n70 = 29 /\ q72 = TOB + (u33.2.2.2.2.2.2.2.1 + 0) /\ u33.2.2.2.2.2.2.2.2.2.2.2.2.2.2.2.2.1 <= (u33.2.2.2.2.2.2.2.1 + 0) /\ (u33.2.2.2.2.2.2.2.1 + 0) < u33.2.2.2.2.2.2.2.2.2.2.2.2.2.2.2.2.2 then (match zcQ N (zx u33.2.2.2.2.2.2.2.2.2.2.2.2.2.1) with | some y73 => (if (l71.length + [(zN (2, u33.2.2.2.1, (⟨#[]⟩ : ByteArray), 0, y73))].length) * 288 <= zh then (if (u33.2.2.2.2.2.2.2.1 + 0) + 1 <= u33.2.2.2.2.2.2.2.2.2.2.2.2.2.2.1.length then (ke (.inr (u33.1, u33.2.1, u33.2.2.1, u33.2.2.2.1, u33.2.2.2.2.1, u33.2.2.2.2.2.1, u33.2.2.2.2.2.2.2.1, u33.2.2.2.2.2.2.2.2.1, u33.2.2.2.2.2.2.2.2.2.1, u33.2.2.2.2.2.2.2.2.2.2.2.1, u33.2.2.2.2.2.2.2.2.2.2.2.2.1, ((splice u33.2.2.2.2.2.2.2.2.2.2.2.2.2.2.1 (u33.2.2.2.2.2.2.2.1 + 0) [(AV.list 29 (l71 ++ [(zN (2, u33.2.2.2.1, (⟨#[]⟩ : ByteArray), 0, y73))]) (some 4672))]).map datF), (u33.2.2.2.2.2.2.2.2.2.2.2.2.2.2.2.1.map dat0), ((u33.2.2.2.2.2.2.2.1 + 0) + 1), u33.2.2.2.2.2.2.2.2.2.2.2.2.2.2.2.2.2))) else none) else none) | none => none) else none) | _ => none) | none => none)))
abbrev zeW (N : Nat) (x : qL × qL × qL × Int × Nat × Int × Int × Nat × Int × Int × Bool × qL × Nat × RT7 × qA × qA × Nat × Nat) : Option ((qL × qL × qL × Int × Nat × Int × Nat × Int × Int × qL × Nat × qA × qA × Nat × Nat) ⊕ (qL × qL × qL × Int × Nat × Int × Nat × Int × Int × qL × Nat × qA × qA × Nat × Nat)) := (jm N).L N x
def Jo (N : Nat) : LSpec where
 X := qL × qL × qL × Int × Nat × Int × Int × Nat × Int × Int × Bool × qL × Nat × RT7 × qA × qA × Nat × Nat
 Y := (qL × qL × qL × Int × Nat × Int × Int × Nat × Int × Int × qL × Nat × RT7 × qA × qA × Nat × Nat)
 p := fun s => rdF 166 0 36 [(11, .tok 1 1280000704), (1, .lst 25), (42, .lst 1), (2, .int .i64), (6, .ptr 6 0), (10, .ptr 10 0), (12, .vs0 39 1), (13, .int .i64), (14, .int .i64), (15, .ptrV 36), (16, .ptr 16 0), (43, .int .i64), (44, .int .i64), (58, .bool)] [(6, .cells [.tok 1 6401572864]), (10, .cells [.vs0 36 1]), (16, .row RK7), (36, .tt), (39, .tt)] s fun ⟨a0, a1, a2, a3, _, _, a4, a5, a6, a7, _, a8, a9, a10, _⟩ ⟨⟨a11, _⟩, ⟨a12, _⟩, a13, a14, a15, _⟩ a16 a17 => (a0, a1, a2, a3, a4, a5, a6, a7, a8, a9, a10, a11, a12, a13, a14, a15, a16, a17)
 st := fun u27 => mkF 166 [(11, (AV.list 1 u27.1 (some 1280000704))), (1, (AV.list 25 u27.2.1 none)), (42, (AV.list 1 u27.2.2.1 none)), (2, (qI u27.2.2.2.1)), (6, (AV.ptr 6 0)), (10, (AV.ptr 10 0)), (12, (AV.vs 39 0 u27.2.2.2.2.1 1)), (13, (qI u27.2.2.2.2.2.1)), (14, (qI u27.2.2.2.2.2.2.1)), (15, (AV.ptr 36 u27.2.2.2.2.2.2.2.1)), (16, (AV.ptr 16 0)), (43, (qI u27.2.2.2.2.2.2.2.2.1)), (44, (qI u27.2.2.2.2.2.2.2.2.2.1)), (58, (AV.v (.bool u27.2.2.2.2.2.2.2.2.2.2.1)))] [(6, [(AV.list 1 u27.2.2.2.2.2.2.2.2.2.2.2.1 (some 6401572864))]), (10, [(AV.vs 36 0 u27.2.2.2.2.2.2.2.2.2.2.2.2.1 1)]), (16, (zN u27.2.2.2.2.2.2.2.2.2.2.2.2.2.1)), (36, u27.2.2.2.2.2.2.2.2.2.2.2.2.2.2.1), (39, u27.2.2.2.2.2.2.2.2.2.2.2.2.2.2.2.1)] (Zk 27).1.toks 0 (some (36, u27.2.2.2.2.2.2.2.2.2.2.2.2.2.2.2.2.1, u27.2.2.2.2.2.2.2.2.2.2.2.2.2.2.2.2.2))
 out := fun y => (.normal, mkF 166 [(11, (AV.list 1 y.1 (some 1280000704))), (1, (AV.list 25 y.2.1 none)), (42, (AV.list 1 y.2.2.1 none)), (2, (qI y.2.2.2.1)), (6, (AV.ptr 6 0)), (10, (AV.ptr 10 0)), (12, (AV.vs 39 0 y.2.2.2.2.1 1)), (13, (qI y.2.2.2.2.2.1)), (14, (qI y.2.2.2.2.2.2.1)), (15, (AV.ptr 36 y.2.2.2.2.2.2.2.1)), (16, (AV.ptr 16 0)), (43, (qI y.2.2.2.2.2.2.2.2.1)), (44, (qI y.2.2.2.2.2.2.2.2.2.1))] [(6, [(AV.list 1 y.2.2.2.2.2.2.2.2.2.2.1 (some 6401572864))]), (10, [(AV.vs 36 0 y.2.2.2.2.2.2.2.2.2.2.2.1 1)]), (16, (zN y.2.2.2.2.2.2.2.2.2.2.2.2.1)), (36, y.2.2.2.2.2.2.2.2.2.2.2.2.2.1), (39, y.2.2.2.2.2.2.2.2.2.2.2.2.2.2.1)] (Zk 27).2.toks 0 (some (36, y.2.2.2.2.2.2.2.2.2.2.2.2.2.2.2.1, y.2.2.2.2.2.2.2.2.2.2.2.2.2.2.2.2)))
 b := fun u27 α kn ke => (match u27.2.2.2.2.2.2.2.2.2.2.1 with | true => (if 0 <= u27.2.2.2.2.2.2.1 /\ u27.2.2.2.2.2.2.1 < (u27.2.2.2.2.1 : Int) then (if ((0 + u27.2.2.2.2.2.2.1.toNat) * 1) + 1 <= u27.2.2.2.2.2.2.2.2.2.2.2.2.2.2.2.1.length then (ke (u27.1, u27.2.1, u27.2.2.1, u27.2.2.2.1, u27.2.2.2.2.1, u27.2.2.2.2.2.1, u27.2.2.2.2.2.2.1, u27.2.2.2.2.2.2.2.1, u27.2.2.2.2.2.2.2.2.1, u27.2.2.2.2.2.2.2.2.2.1, u27.2.2.2.2.2.2.2.2.2.2.2.1, u27.2.2.2.2.2.2.2.2.2.2.2.2.1, u27.2.2.2.2.2.2.2.2.2.2.2.2.2.1, (u27.2.2.2.2.2.2.2.2.2.2.2.2.2.2.1.map datF), ((splice u27.2.2.2.2.2.2.2.2.2.2.2.2.2.2.2.1 ((0 + u27.2.2.2.2.2.2.1.toNat) * 1) [(AV.v (.bool true))]).map dat0), u27.2.2.2.2.2.2.2.2.2.2.2.2.2.2.2.2)) else none) else none) | false => (ke (u27.1, u27.2.1, u27.2.2.1, u27.2.2.2.1, u27.2.2.2.2.1, u27.2.2.2.2.2.1, u27.2.2.2.2.2.2.1, u27.2.2.2.2.2.2.2.1, u27.2.2.2.2.2.2.2.2.1, u27.2.2.2.2.2.2.2.2.2.1, u27.2.2.2.2.2.2.2.2.2.2.2.1, u27.2.2.2.2.2.2.2.2.2.2.2.2.1, u27.2.2.2.2.2.2.2.2.2.2.2.2.2.1, (u27.2.2.2.2.2.2.2.2.2.2.2.2.2.2.1.map datF), (u27.2.2.2.2.2.2.2.2.2.2.2.2.2.2.2.1.map dat0), u27.2.2.2.2.2.2.2.2.2.2.2.2.2.2.2.2)))
abbrev zpf (N : Nat) (x : qL × qL × qL × Int × Nat × Int × Int × Nat × Int × Int × Bool × qL × Nat × RT7 × qA × qA × Nat × Nat) : Option ((qL × qL × qL × Int × Nat × Int × Int × Nat × Int × Int × qL × Nat × RT7 × qA × qA × Nat × Nat)) := (Jo N).L N x
def Za (N : Nat) : LSpec where
 X := qL × qL × qL × Int × Nat × Int × Int × qL × Nat × qA × qA × Nat × Nat
 Y := (qL × qL × qL × Int × Int × Nat × qL × Nat × qA × qA × Nat × Nat) ⊕ (qL × qL × Int × Nat × qL × Nat × qA × qA × Nat × Nat)
 p := fun s => rdF 166 0 36 [(11, .tok 1 1280000704), (1, .lst 25), (42, .lst 1), (2, .int .i64), (6, .ptr 6 0), (10, .ptr 10 0), (12, .vs0 39 1), (43, .int .i64), (44, .int .i64)] [(6, .cells [.tok 1 6401572864]), (10, .cells [.vs0 36 1]), (36, .tt), (39, .tt)] s fun ⟨a0, a1, a2, a3, _, _, a4, a5, a6, _⟩ ⟨⟨a7, _⟩, ⟨a8, _⟩, a9, a10, _⟩ a11 a12 => (a0, a1, a2, a3, a4, a5, a6, a7, a8, a9, a10, a11, a12)
 st := fun u16 => mkF 166 [(11, (AV.list 1 u16.1 (some 1280000704))), (1, (AV.list 25 u16.2.1 none)), (42, (AV.list 1 u16.2.2.1 none)), (2, (qI u16.2.2.2.1)), (6, (AV.ptr 6 0)), (10, (AV.ptr 10 0)), (12, (AV.vs 39 0 u16.2.2.2.2.1 1)), (43, (qI u16.2.2.2.2.2.1)), (44, (qI u16.2.2.2.2.2.2.1))] [(6, [(AV.list 1 u16.2.2.2.2.2.2.2.1 (some 6401572864))]), (10, [(AV.vs 36 0 u16.2.2.2.2.2.2.2.2.1 1)]), (36, u16.2.2.2.2.2.2.2.2.2.1), (39, u16.2.2.2.2.2.2.2.2.2.2.1)] (Zk 16).1.toks 0 (some (36, u16.2.2.2.2.2.2.2.2.2.2.2.1, u16.2.2.2.2.2.2.2.2.2.2.2.2))
 out := fun y => match y with
  | .inl y => (.ret, mkF 166 [(11, (AV.list 1 y.1 (some 1280000704))), (1, (AV.list 25 y.2.1 none)), (7, (AV.list 1 y.2.2.1 none)), (2, (qI y.2.2.2.1)), (6, (AV.ptr 6 0)), (8, (qI y.2.2.2.2.1)), (10, (AV.ptr 10 0)), (12, (AV.vs 39 0 y.2.2.2.2.2.1 1))] [(6, [(AV.list 1 y.2.2.2.2.2.2.1 (some 6401572864))]), (10, [(AV.vs 36 0 y.2.2.2.2.2.2.2.1 1)]), (36, y.2.2.2.2.2.2.2.2.1), (39, y.2.2.2.2.2.2.2.2.2.1)] (Zk 16).2.toks 0 (some (36, y.2.2.2.2.2.2.2.2.2.2.1, y.2.2.2.2.2.2.2.2.2.2.2)))
  | .inr y => (.exit 0, mkF 166 [(11, (AV.list 1 y.1 (some 1280000704))), (1, (AV.list 25 y.2.1 none)), (2, (qI y.2.2.1)), (6, (AV.ptr 6 0)), (10, (AV.ptr 10 0)), (12, (AV.vs 39 0 y.2.2.2.1 1))] [(6, [(AV.list 1 y.2.2.2.2.1 (some 6401572864))]), (10, [(AV.vs 36 0 y.2.2.2.2.2.1 1)]), (36, y.2.2.2.2.2.2.1), (39, y.2.2.2.2.2.2.2.1)] (Zk 16).2.toks 0 (some (36, y.2.2.2.2.2.2.2.2.1, y.2.2.2.2.2.2.2.2.2)))
 b := fun u16 α kn ke => (match (decide (u16.2.2.2.2.2.2.1 < u16.2.2.2.2.2.1)) with | true => (if 0 <= u16.2.2.2.2.2.2.1 then (match u16.2.2.1[u16.2.2.2.2.2.2.1.toNat]? with | some c79 => (match c79[0]? with | some x80 => (match x80 with | .v (.int q82 n81) => (if q82 = .i64 then (if 0 <= u16.2.2.2.2.2.2.1 /\ u16.2.2.2.2.2.2.1 < (u16.2.2.2.2.2.2.2.2.1 : Int) then (match zfU (u16.2.2.2.2.2.2.2.2.2.1.drop ((0 + u16.2.2.2.2.2.2.1.toNat) * 1)) with | some e83 => (match zmg N e83.1 with | some y84 => (match zpf N (u16.1, u16.2.1, u16.2.2.1, u16.2.2.2.1, u16.2.2.2.2.1, u16.2.2.2.2.2.2.1, n81, ((0 + u16.2.2.2.2.2.2.1.toNat) * 1), u16.2.2.2.2.2.1, u16.2.2.2.2.2.2.1, (decide (n81 >= 0)), u16.2.2.2.2.2.2.2.1, u16.2.2.2.2.2.2.2.2.1, y84, (u16.2.2.2.2.2.2.2.2.2.1.map datF), (u16.2.2.2.2.2.2.2.2.2.2.1.map dat0), u16.2.2.2.2.2.2.2.2.2.2.2) with | some y85 => (match zq2 N y85.2.2.2.2.2.2.2.2.2.2.2.2.1.1 with | some y86 => (match (!y86) with | true => (kn (y85.1, y85.2.1, y85.2.2.1, y85.2.2.2.1, y85.2.2.2.2.1, y85.2.2.2.2.2.2.2.2.1, (i64 (y85.2.2.2.2.2.2.2.2.2.1 + 1)), y85.2.2.2.2.2.2.2.2.2.2.1, y85.2.2.2.2.2.2.2.2.2.2.2.1, (y85.2.2.2.2.2.2.2.2.2.2.2.2.2.1.map datF), (y85.2.2.2.2.2.2.2.2.2.2.2.2.2.2.1.map dat0), y85.2.2.2.2.2.2.2.2.2.2.2.2.2.2.2)) | false => (match zeW N (y85.1, y85.2.1, y85.2.2.1, y85.2.2.2.1, y85.2.2.2.2.1, y85.2.2.2.2.2.1, y85.2.2.2.2.2.2.1, y85.2.2.2.2.2.2.2.1, y85.2.2.2.2.2.2.2.2.1, y85.2.2.2.2.2.2.2.2.2.1, (decide (y85.2.2.2.2.2.2.1 >= 0)), y85.2.2.2.2.2.2.2.2.2.2.1, y85.2.2.2.2.2.2.2.2.2.2.2.1, y85.2.2.2.2.2.2.2.2.2.2.2.2.1, (y85.2.2.2.2.2.2.2.2.2.2.2.2.2.1.map datF), (y85.2.2.2.2.2.2.2.2.2.2.2.2.2.2.1.map dat0), y85.2.2.2.2.2.2.2.2.2.2.2.2.2.2.2) with | some y87 => (match y87 with | .inl z88 => (kn (z88.1, z88.2.1, z88.2.2.1, z88.2.2.2.1, z88.2.2.2.2.1, z88.2.2.2.2.2.2.2.1, (i64 (z88.2.2.2.2.2.2.2.2.1 + 1)), z88.2.2.2.2.2.2.2.2.2.1, z88.2.2.2.2.2.2.2.2.2.2.1, (z88.2.2.2.2.2.2.2.2.2.2.2.1.map datF), (z88.2.2.2.2.2.2.2.2.2.2.2.2.1.map dat0), z88.2.2.2.2.2.2.2.2.2.2.2.2.2)) | .inr z89 => (match z89.2.2.2.2.2.2.2.2.2.2.2.1[(z89.2.2.2.2.2.2.1 + 0)]? with | some x90 => (match Z2 29 x90 with | some l91 => (match (decide ((l91.length : Int) > 100)) with | true => (ke (.inl (z89.1, z89.2.1, ([] : qL), z89.2.2.2.1, 8, z89.2.2.2.2.1, ([] : qL), z89.2.2.2.2.2.2.2.2.2.2.1, (z89.2.2.2.2.2.2.2.2.2.2.2.1.map datF), (z89.2.2.2.2.2.2.2.2.2.2.2.2.1.map dat0), z89.2.2.2.2.2.2.2.2.2.2.2.2.2))) | false => (if (z89.1.length + [[(AV.v (.int .i64 z89.2.2.2.2.2.1))]].length) * 8 <= zh then (kn ((z89.1 ++ [[(AV.v (.int .i64 z89.2.2.2.2.2.1))]]), z89.2.1, z89.2.2.1, z89.2.2.2.1, z89.2.2.2.2.1, z89.2.2.2.2.2.2.2.1, (i64 (z89.2.2.2.2.2.2.2.2.1 + 1)), z89.2.2.2.2.2.2.2.2.2.1, z89.2.2.2.2.2.2.2.2.2.2.1, (z89.2.2.2.2.2.2.2.2.2.2.2.1.map datF), (z89.2.2.2.2.2.2.2.2.2.2.2.2.1.map dat0), z89.2.2.2.2.2.2.2.2.2.2.2.2.2)) else none)) | none => none) | none => none)) | none => none)) | none => none) | none => none) | none => none) | none => none) else none) else none) | _ => none) | none => none) | none => none) else none) | false => (ke (.inr (u16.1, u16.2.1, u16.2.2.2.1, u16.2.2.2.2.1, u16.2.2.2.2.2.2.2.1, u16.2.2.2.2.2.2.2.2.1, (u16.2.2.2.2.2.2.2.2.2.1.map datF), (u16.2.2.2.2.2.2.2.2.2.2.1.map dat0), u16.2.2.2.2.2.2.2.2.2.2.2))))
abbrev zl8 (N : Nat) (x : qL × qL × qL × Int × Nat × Int × Int × qL × Nat × qA × qA × Nat × Nat) : Option ((qL × qL × qL × Int × Int × Nat × qL × Nat × qA × qA × Nat × Nat) ⊕ (qL × qL × Int × Nat × qL × Nat × qA × qA × Nat × Nat)) := (Za N).L N x
def zef (N : Nat) : FSpec where
 X := qL × qL × Int
 Y := qL × qL × Int
 ash := [[some 1], [some 25], [none]]
 S := ⟨[[some 1], [some 1], [none]], [], [], [], []⟩
 pat := fun a b => zk a fun v1 c2 => jg v1 fun c3 => zk c3 fun c4 c5 => Z3 1 c4 fun a0 => zQ c5 <| zk c2 fun v6 c7 => Z3 25 v6 fun a1 => zk c7 fun v8 c9 => jO .i64 v8 fun a2 => zQ c9 <| zQ b <| some (a0, a1, a2)
 args := fun x => [(AV.agg [(AV.list 1 x.1 none)]), (AV.list 25 x.2.1 none), (AV.v (.int .i64 x.2.2))]
 ret := fun y => ⟨(AV.tup [(AV.agg [(AV.list 1 y.1 none)]), (AV.list 1 y.2.1 none), (AV.v (.int .i64 y.2.2))]), [], none, [], [], [], none⟩
 t := fun x α k => (match zl4 N x.1 with | some y1 => (match (!y1) with | true => (k (([] : qL), ([] : qL), 1)) | false => (match ze7 N x.2.1 with | some y2 => (match (!y2) with | true => (k (([] : qL), ([] : qL), 1)) | false => (match zrV N (x.1, x.2.2) with | some y3 => (match (y3 != 0) with | true => (k (([] : qL), ([] : qL), y3)) | false => (match zjD N x.1 with | some y4 => (if 0 <= (x.2.1.length : Int) /\ (x.2.1.length : Int) <= (x.2.1.length : Int) /\ (x.2.1.length : Int).toNat * 1 <= zh then (match zvj N (x.1, x.2.1) with | some y5 => (match zl8 N (([] : qL), x.2.1, y5, x.2.2, ((x.2.1.length : Int).toNat), (y5.length : Int), 0, ([] : qL), y4.1, ((y4.2.1.map (datJ y4.2.2.1 y4.2.2.2)).map datF), ((List.replicate (x.2.1.length : Int).toNat (AV.v (.bool false))).map dat0), y4.2.2) with | some y92 => (match y92 with | .inl z93 => (k (z93.2.2.2.2.2.2.1, z93.2.2.1, z93.2.2.2.2.1)) | .inr z94 => (match zml N (z94.1, z94.2.1, z94.2.2.1, z94.2.2.2.1, (z94.2.1.length : Int), 0, z94.2.2.2.2.1, z94.2.2.2.2.2.1, (z94.2.2.2.2.2.2.2.1.map dat0), (z94.2.2.2.2.2.2.1.map dat0)) with | some y105 => (match (decide (((y105.2.2.1 : Nat) : Int) > 500)) with | true => (k (([] : qL), ([] : qL), 8)) | false => (if y105.2.2.1 * 1 <= y105.2.2.2.length then (k ((zK (y105.2.2.2.take (y105.2.2.1 * 1)) 1 y105.2.2.1), y105.1, 0)) else none)) | none => none)) | none => none) | none => none) else none) | none => none)) | none => none)) | none => none)) | none => none)
abbrev zj6 (N : Nat) (x : qL × qL × Int) : Option (qL × qL × Int) := (zef N).d x
def jt (N : Nat) : List (Nat × LSpec) := [(16, Za N), (27, Jo N), (33, jm N), (35, jy N), (46, ZE N)]
def jQ : Code := Tryd.f10.body.getD .skip
theorem znq (N : Nat) : Par (ZE N).b := by
 intro x α β kn ke kn' ke' r r' h h1 h2
 revert h
 dsimp only [ZE]
 (repeat' (first | (with_reducible refine ze ?_ ?_) | split)) <;> intro h <;> first | exact h1 _ h | exact h2 _ h | cases h
theorem zk6 (N : Nat) : jh (JT qP [36, 66, 101, 156]) (zj3 N) Zk N (jt N) 46 jQ (ZE N) := fun x α kn ke => by kernel_rfl
theorem zki (N : Nat) : ZK qP Zk N (jt N) 46 (zc 46 jQ) :=
 zD (zL qP [36, 66, 101, 156]) (zi _) zl Zk N (jt N) 46 jQ (l := []) (by kernel_rfl) (by kernel_rfl) an (ZE N) rfl (fun s x hc h => by dsimp only [ZE] at h; exact zJ hc h (fun _ _ => rfl) rfl rfl rfl) (fun _ => rfl) (zk6 N) (znq N)
theorem zpw (N : Nat) : Par (jy N).b := by
 intro x α β kn ke kn' ke' r r' h h1 h2
 revert h
 dsimp only [jy]
 (repeat' (first | (with_reducible refine ze ?_ ?_) | split)) <;> intro h <;> first | exact h1 _ h | exact h2 _ h | cases h
theorem zkZ (N : Nat) : zlV (JT qP [36, 66, 101, 156]) (zj3 N) Zk N (jt N) 35 jQ (jy N) := fun x α kn ke => by kernel_rfl
theorem zbo (N : Nat) : ZK qP Zk N (jt N) 35 (zc 35 jQ) :=
 j6 (zL qP [36, 66, 101, 156]) (zi _) zl Zk N (jt N) 35 jQ (l := []) (by kernel_rfl) an (jy N) rfl (fun s x hc h => by dsimp only [jy] at h; exact za5 hc h (fun _ _ _ _ => rfl) rfl rfl) (zkZ N) (zpw N)
theorem zoJ (N : Nat) : Par (jm N).b := by
 intro x α β kn ke kn' ke' r r' h h1 h2
 revert h
 dsimp only [jm]
 (repeat' (first | (with_reducible refine ze ?_ ?_) | split)) <;> intro h <;> first | exact h1 _ h | exact h2 _ h | cases h
theorem zlf (N : Nat) : zlV (JT qP [36, 66, 101, 156]) (zj3 N) Zk N (jt N) 33 jQ (jm N) := fun x α kn ke => by kernel_rfl
theorem zeM (N : Nat) : ZK qP Zk N (jt N) 33 (zc 33 jQ) :=
 j6 (zL qP [36, 66, 101, 156]) (zi _) zl Zk N (jt N) 33 jQ (l := [(35, zc 35 jQ)]) (by kernel_rfl) (al (zbo N) an) (jm N) rfl (fun s x hc h => by dsimp only [jm] at h; exact za5 hc h (fun _ _ _ _ => rfl) rfl rfl) (zlf N) (zoJ N)
theorem zmh (N : Nat) : Par (Jo N).b := by
 intro x α β kn ke kn' ke' r r' h h1 h2
 revert h
 dsimp only [Jo]
 (repeat' (first | (with_reducible refine ze ?_ ?_) | split)) <;> intro h <;> first | exact h1 _ h | exact h2 _ h | cases h
theorem zj5 (N : Nat) : zlV (JT qP [36, 66, 101, 156]) (zj3 N) Zk N (jt N) 27 jQ (Jo N) := fun x α kn ke => by kernel_rfl
theorem zeV (N : Nat) : ZK qP Zk N (jt N) 27 (zc 27 jQ) :=
 j6 (zL qP [36, 66, 101, 156]) (zi _) zl Zk N (jt N) 27 jQ (l := []) (by kernel_rfl) an (Jo N) rfl (fun s x hc h => by dsimp only [Jo] at h; exact za5 hc h (fun _ _ _ _ => rfl) rfl rfl) (zj5 N) (zmh N)
theorem zoV (N : Nat) : Par (Za N).b := by
 intro x α β kn ke kn' ke' r r' h h1 h2
 revert h
 dsimp only [Za]
 (repeat' (first | (with_reducible refine ze ?_ ?_) | split)) <;> intro h <;> first | exact h1 _ h | exact h2 _ h | cases h
theorem zks (N : Nat) : jh (JT qP [36, 66, 101, 156]) (zj3 N) Zk N (jt N) 16 jQ (Za N) := fun x α kn ke => by kernel_rfl
theorem zlN (N : Nat) : ZK qP Zk N (jt N) 16 (zc 16 jQ) :=
 zD (zL qP [36, 66, 101, 156]) (zi _) zl Zk N (jt N) 16 jQ (l := [(27, zc 27 jQ), (33, zc 33 jQ), (35, zc 35 jQ)]) (by kernel_rfl) (by kernel_rfl) (al (zeV N) (al (zeM N) (al (zbo N) an))) (Za N) rfl (fun s x hc h => by dsimp only [Za] at h; exact za5 hc h (fun _ _ _ _ => rfl) rfl rfl) (fun _ => rfl) (zks N) (zoV N)
theorem ztb (N : Nat) : Zd (zef N).t := by
 intro x α β k k' r r' h h1
 revert h
 dsimp only [zef]
 (repeat' (first | (with_reducible refine ze ?_ ?_) | split)) <;> intro h <;> first | exact h1 _ h | cases h
theorem zt5 (N : Nat) : Zh (JT qP [36, 66, 101, 156]) (zj3 N) Zk (lam N (jt N)) Tryd.f10 (zef N) := fun x => by kernel_rfl
theorem zyl (N : Nat) (a : List AV) (b : qL) (x : (zef N).X) (h : (zef N).pat a b = some x) : a = (zef N).args x /\ b = (zef N).bs x := by
 obtain ⟨v1, c2, rfl, g0⟩ := zb (show zk _ _ = some x from h)
 obtain ⟨c3, rfl, g1⟩ := zR g0; clear g0
 obtain ⟨c4, c5, rfl, g2⟩ := zb g1; clear g1
 obtain ⟨a0, rfl, g3⟩ := zr g2; clear g2
 obtain ⟨rfl, g4⟩ := zg g3; clear g3
 obtain ⟨v6, c7, rfl, g5⟩ := zb g4; clear g4
 obtain ⟨a1, rfl, g6⟩ := zr g5; clear g5
 obtain ⟨v8, c9, rfl, g7⟩ := zb g6; clear g6
 obtain ⟨a2, rfl, g8⟩ := zC g7; clear g7
 obtain ⟨rfl, g9⟩ := zg g8; clear g8
 obtain ⟨rfl, g10⟩ := zg g9; clear g9
 clear h
 cases g10
 exact ⟨rfl, rfl⟩
def zBo (N : Nat) : Ent qP := zA (zL qP [36, 66, 101, 156]) (zi _) zl 10 Tryd.f10 Tryd.func10 rfl Zk (lam N (jt N)) (zm (l := [(16, zc 16 jQ), (27, zc 27 jQ), (33, zc 33 jQ), (35, zc 35 jQ), (46, zc 46 jQ)]) (al (zlN N) (al (zeV N) (al (zeM N) (al (zbo N) (al (zki N) an))))) (by kernel_rfl)) (zef N) (fun _ => ⟨rfl, rfl⟩) (zt5 N) (zyl N) (ztb N)
end
end Go.Proofs.YthdgnfcbehcplaaDoor
end
