/- Several texts as one (written by pack.py). -/
import Derived.Test.YthdgnfcbehcplaaDoorCpC
set_option linter.unusedVariables false
set_option linter.unusedSimpArgs false
set_option linter.unnecessarySimpa false
section
namespace Go.Proofs.YthdgnfcbehcplaaDoor
noncomputable section
open Go.RowKit
set_option maxRecDepth 4000
set_option maxHeartbeats 4000000
def zmF : Nat -> Keep × Keep := anL []
def zAN (N : Nat) : GamK := gam (P := qP) []
def zf1 (N : Nat) : FSpec where
 X := ByteArray × ByteArray
 Y := Int
 ash := [[none], [none]]
 S := ⟨[[none]], [], [], [], []⟩
 pat := fun a b => rdA [.str, .str] [] a b fun ⟨a0, a1, _⟩ _ => (a0, a1)
 args := fun x => [(AV.v (.string x.1)), (AV.v (.string x.2))]
 ret := fun y => ⟨(AV.v (.int .i64 y)), [], none, [], [], [], none⟩
 t := fun x α k => (match (Go.Op.bytesLess x.1.toList x.2.toList) with | true => (k (-1)) | false => (match (!((Go.Op.bytesLess x.1.toList x.2.toList) || (x.1.toList == x.2.toList))) with | true => (k 1) | false => (k 0)))
abbrev ziJ (N : Nat) (x : ByteArray × ByteArray) : Option (Int) := (zf1 N).d x
theorem zoQ (N : Nat) : Zd (zf1 N).t := by
 intro x α β k k' r r' h h1
 revert h
 dsimp only [zf1]
 (repeat' (first | (with_reducible refine ze ?_ ?_) | split)) <;> intro h <;> first | exact h1 _ h | cases h
theorem zm9 (N : Nat) : Zh (zn qP) (zAN N) zmF (lam N []) Tryd.f103 (zf1 N) := fun x => by kernel_rfl
def zBG (N : Nat) : Ent qP := zy (zd qP) (zi _) zl 103 Tryd.f103 Tryd.func103 rfl zmF (lam N []) (zm (l := []) an (by kernel_rfl)) (zf1 N) (fun _ => ⟨rfl, rfl⟩) (zm9 N) (fun _ _ _ h => zu h (fun _ _ => rfl) (fun _ _ => rfl)) (zoQ N)
abbrev RK4 : List Ck := [.int .i64, .int .i64, .int .i64, .int .i64]
abbrev RT4 : Type := Int × Int × Int × Int × Unit
def Ren4 (e : RT4) : List AV := enc RK4 e
def JY : Nat -> Keep × Keep := anL [(4, qK [27, 28] [] [], qK [4] [] [])]
def zwu (N : Nat) : GamK := gam (P := qP) [zBG N]
def zaN (N : Nat) : LSpec where
 X := RT4 × Int
 Y := (Int) ⊕ (Unit)
 p := fun s => rdS 35 0 [(27, .agg RK4), (28, .int .i64)] [] s fun ⟨a0, a1, _⟩ _ => (a0, a1)
 st := fun u4 => mkS 35 [(27, (AV.agg (Ren4 u4.1))), (28, (qI u4.2))] [] (JY 4).1.toks 0
 out := fun y => match y with
  | .inl y => (.ret, mkS 35 [(4, (qI y))] [] (JY 4).2.toks 0)
  | .inr y => (.exit 0, mkS 35 [] [] (JY 4).2.toks 0)
 b := fun u4 α kn ke => (match (decide (u4.2 < 4)) with | true => (if 0 <= u4.2 /\ u4.2 < 4 then (match [(AV.v (.int .i64 u4.1.1)), (AV.v (.int .i64 u4.1.2.1)), (AV.v (.int .i64 u4.1.2.2.1)), (AV.v (.int .i64 u4.1.2.2.2.1))][(u4.2.toNat * 1)]? with | some x5 => (match x5 with | .v (.int q7 n6) => (if q7 = .i64 then (match (n6 != 0) with | true => (ke (.inl n6)) | false => (kn (u4.1, (i64 (u4.2 + 1))))) else none) | _ => none) | none => none) else none) | false => (ke (.inr ())))
abbrev zyO (N : Nat) (x : RT4 × Int) : Option ((Int) ⊕ (Unit)) := (zaN N).L N x
def zgq (N : Nat) : FSpec where
 X := RT2 × RT2
 Y := Int
 ash := [[none, none, none, none], [none, none, none, none]]
 S := ⟨[[none]], [], [], [], []⟩
 pat := fun a b => rdA [.agg RK2, .agg RK2] [] a b fun ⟨a0, a1, _⟩ _ => (a0, a1)
 args := fun x => [(AV.agg (zCf x.1)), (AV.agg (zCf x.2))]
 ret := fun y => ⟨(AV.v (.int .i64 y)), [], none, [], [], [], none⟩
 t := fun x α k => (match ziJ N (x.1.1, x.2.1) with | some y1 => (match ziJ N (x.1.2.1, x.2.2.1) with | some y2 => (match ziJ N (x.1.2.2.1, x.2.2.2.1) with | some y3 => (match ziJ N (x.1.2.2.2.1, x.2.2.2.2.1) with | some y4 => (match zyO N ((y1, y2, y3, y4, ()), 0) with | some y8 => (match y8 with | .inl z9 => (k z9) | .inr z10 => (k 0)) | none => none) | none => none) | none => none) | none => none) | none => none)
abbrev zov (N : Nat) (x : RT2 × RT2) : Option (Int) := (zgq N).d x
def zcN (N : Nat) : List (Nat × LSpec) := [(4, zaN N)]
def ziM : Code := Tryd.f101.body.getD .skip
theorem zmt (N : Nat) : Par (zaN N).b := by
 intro x α β kn ke kn' ke' r r' h h1 h2
 revert h
 dsimp only [zaN]
 (repeat' (first | (with_reducible refine ze ?_ ?_) | split)) <;> intro h <;> first | exact h1 _ h | exact h2 _ h | cases h
theorem zk1 (N : Nat) : ji (zn qP) (zwu N) JY N (zcN N) 4 ziM (zaN N) := fun x α kn ke => by kernel_rfl
theorem zkQ (N : Nat) : ZK qP JY N (zcN N) 4 (zc 4 ziM) :=
 zD (zd qP) (zi _) zl JY N (zcN N) 4 ziM (l := []) (by kernel_rfl) (by kernel_rfl) an (zaN N) rfl (fun s x hc h => by dsimp only [zaN] at h; exact zJ hc h (fun _ _ => rfl) rfl rfl rfl) (fun _ => rfl) (zk1 N) (zmt N)
theorem znF (N : Nat) : Zd (zgq N).t := by
 intro x α β k k' r r' h h1
 revert h
 dsimp only [zgq]
 (repeat' (first | (with_reducible refine ze ?_ ?_) | split)) <;> intro h <;> first | exact h1 _ h | cases h
theorem zp2 (N : Nat) : Zh (zn qP) (zwu N) JY (lam N (zcN N)) Tryd.f101 (zgq N) := fun x => by kernel_rfl
def zBN (N : Nat) : Ent qP := zy (zd qP) (zi _) zl 101 Tryd.f101 Tryd.func101 rfl JY (lam N (zcN N)) (zm (l := [(4, zc 4 ziM)]) (al (zkQ N) an) (by kernel_rfl)) (zgq N) (fun _ => ⟨rfl, rfl⟩) (zp2 N) (fun _ _ _ h => zu h (fun _ _ => rfl) (fun _ _ => rfl)) (znF N)
abbrev RK5 : List Ck := [.int .i64, .int .i64, .int .i64, .int .i64, .int .i64, .int .i64, .int .i64, .int .i64, .int .i64, .int .i64]
abbrev RT5 : Type := Int × Int × Int × Int × Int × Int × Int × Int × Int × Int × Unit
def Ren5 (e : RT5) : List AV := enc RK5 e
def zbW : Nat -> Keep × Keep := anL [(9, qK [41, 42] [] [], qK [4] [] [])]
def zA1 (N : Nat) : GamK := gam (P := qP) [zBN N]
def zcZ (N : Nat) : LSpec where
 X := RT5 × Int
 Y := (Int) ⊕ (Unit)
 p := fun s => rdS 56 0 [(41, .agg RK5), (42, .int .i64)] [] s fun ⟨a0, a1, _⟩ _ => (a0, a1)
 st := fun u9 => mkS 56 [(41, (AV.agg (Ren5 u9.1))), (42, (qI u9.2))] [] (zbW 9).1.toks 0
 out := fun y => match y with
  | .inl y => (.ret, mkS 56 [(4, (qI y))] [] (zbW 9).2.toks 0)
  | .inr y => (.exit 0, mkS 56 [] [] (zbW 9).2.toks 0)
 b := fun u9 α kn ke => (match (decide (u9.2 < 5)) with | true => (if 0 <= u9.2 /\ u9.2 < 5 then (match ([(AV.v (.int .i64 u9.1.1)), (AV.v (.int .i64 u9.1.2.1)), (AV.v (.int .i64 u9.1.2.2.1)), (AV.v (.int .i64 u9.1.2.2.2.1)), (AV.v (.int .i64 u9.1.2.2.2.2.1)), (AV.v (.int .i64 u9.1.2.2.2.2.2.1)), (AV.v (.int .i64 u9.1.2.2.2.2.2.2.1)), (AV.v (.int .i64 u9.1.2.2.2.2.2.2.2.1)), (AV.v (.int .i64 u9.1.2.2.2.2.2.2.2.2.1)), (AV.v (.int .i64 u9.1.2.2.2.2.2.2.2.2.2.1))].drop (u9.2.toNat * 2)) with | x2 :: r3 => (match x2 with | .v (.int q5 n4) => (if q5 = .i64 then (match r3 with | x6 :: r7 => (match x6 with | .v (.int q9 n8) => (if q9 = .i64 then (match (decide (n4 < n8)) with | true => (ke (.inl (-1))) | false => (match (decide (n4 > n8)) with | true => (ke (.inl 1)) | false => (kn (u9.1, (i64 (u9.2 + 1)))))) else none) | _ => none) | [] => none) else none) | _ => none) | [] => none) else none) | false => (ke (.inr ())))
abbrev zz9 (N : Nat) (x : RT5 × Int) : Option ((Int) ⊕ (Unit)) := (zcZ N).L N x
def zhA (N : Nat) : FSpec where
 X := RT1 × RT1
 Y := Int
 ash := [[none, none, none, none, none, none, none, none, none], [none, none, none, none, none, none, none, none, none]]
 S := ⟨[[none]], [], [], [], []⟩
 pat := fun a b => rdA [.agg RK1, .agg RK1] [] a b fun ⟨a0, a1, _⟩ _ => (a0, a1)
 args := fun x => [(AV.agg (zq x.1)), (AV.agg (zq x.2))]
 ret := fun y => ⟨(AV.v (.int .i64 y)), [], none, [], [], [], none⟩
 t := fun x α k => (match zov N ((zfq x.1), (zfq x.2)) with | some y1 => (match (y1 != 0) with | true => (k y1) | false => (match zz9 N ((x.1.2.2.2.2.1, x.2.2.2.2.2.1, x.1.2.2.2.2.2.1, x.2.2.2.2.2.2.1, x.1.2.2.2.2.2.2.1, x.2.2.2.2.2.2.2.1, x.1.2.2.2.2.2.2.2.1, x.2.2.2.2.2.2.2.2.1, x.1.2.2.2.2.2.2.2.2.1, x.2.2.2.2.2.2.2.2.2.1, ()), 0) with | some y10 => (match y10 with | .inl z11 => (k z11) | .inr z12 => (k 0)) | none => none)) | none => none)
abbrev zkK (N : Nat) (x : RT1 × RT1) : Option (Int) := (zhA N).d x
def zfY (N : Nat) : List (Nat × LSpec) := [(9, zcZ N)]
def zrV : Code := Tryd.f97.body.getD .skip
theorem zs2 (N : Nat) : Par (zcZ N).b := by
 intro x α β kn ke kn' ke' r r' h h1 h2
 revert h
 dsimp only [zcZ]
 (repeat' (first | (with_reducible refine ze ?_ ?_) | split)) <;> intro h <;> first | exact h1 _ h | exact h2 _ h | cases h
theorem znC (N : Nat) : ji (zn qP) (zA1 N) zbW N (zfY N) 9 zrV (zcZ N) := fun x α kn ke => by kernel_rfl
theorem zqe (N : Nat) : ZK qP zbW N (zfY N) 9 (zc 9 zrV) :=
 zD (zd qP) (zi _) zl zbW N (zfY N) 9 zrV (l := []) (by kernel_rfl) (by kernel_rfl) an (zcZ N) rfl (fun s x hc h => by dsimp only [zcZ] at h; exact zJ hc h (fun _ _ => rfl) rfl rfl rfl) (fun _ => rfl) (znC N) (zs2 N)
theorem zuw (N : Nat) : Zd (zhA N).t := by
 intro x α β k k' r r' h h1
 revert h
 dsimp only [zhA]
 (repeat' (first | (with_reducible refine ze ?_ ?_) | split)) <;> intro h <;> first | exact h1 _ h | cases h
theorem zvH (N : Nat) : Zh (zn qP) (zA1 N) zbW (lam N (zfY N)) Tryd.f97 (zhA N) := fun x => by kernel_rfl
def zAo (N : Nat) : Ent qP := zy (zd qP) (zi _) zl 97 Tryd.f97 Tryd.func97 rfl zbW (lam N (zfY N)) (zm (l := [(9, zc 9 zrV)]) (al (zqe N) an) (by kernel_rfl)) (zhA N) (fun _ => ⟨rfl, rfl⟩) (zvH N) (fun _ _ _ h => zu h (fun _ _ => rfl) (fun _ _ => rfl)) (zuw N)
def zw3 : Nat -> Keep × Keep := anL []
def zD8 (N : Nat) : GamK := gam (P := qP) [zAo N]
def zkO (N : Nat) : FSpec where
 X := RT1 × RT1
 Y := Int
 ash := [[none, none, none, none, none, none, none, none, none], [none, none, none, none, none, none, none, none, none]]
 S := ⟨[[none]], [], [], [], []⟩
 pat := fun a b => rdA [.agg RK1, .agg RK1] [] a b fun ⟨a0, a1, _⟩ _ => (a0, a1)
 args := fun x => [(AV.agg (zq x.1)), (AV.agg (zq x.2))]
 ret := fun y => ⟨(AV.v (.int .i64 y)), [], none, [], [], [], none⟩
 t := fun x α k => (match (decide (x.1.2.2.2.2.1 < x.2.2.2.2.2.1)) with | true => (k (-1)) | false => (match (decide (x.1.2.2.2.2.1 > x.2.2.2.2.2.1)) with | true => (k 1) | false => (match zkK N x with | some y1 => (k y1) | none => none)))
abbrev zpW (N : Nat) (x : RT1 × RT1) : Option (Int) := (zkO N).d x
theorem zq1 (N : Nat) : Zd (zkO N).t := by
 intro x α β k k' r r' h h1
 revert h
 dsimp only [zkO]
 (repeat' (first | (with_reducible refine ze ?_ ?_) | split)) <;> intro h <;> first | exact h1 _ h | cases h
theorem zr7 (N : Nat) : Zh (zn qP) (zD8 N) zw3 (lam N []) Tryd.f81 (zkO N) := fun x => by kernel_rfl
def zBf (N : Nat) : Ent qP := zy (zd qP) (zi _) zl 81 Tryd.f81 Tryd.func81 rfl zw3 (lam N []) (zm (l := []) an (by kernel_rfl)) (zkO N) (fun _ => ⟨rfl, rfl⟩) (zr7 N) (fun _ _ _ h => zu h (fun _ _ => rfl) (fun _ _ => rfl)) (zq1 N)
def zc8 : Nat -> Keep × Keep := anL [(5, ⟨[2, 3, 4], [], [2, 3], [(0, 9)], [], [], [], [], false, none, []⟩, qK [2, 3] [] [2, 3])]
def zAX (N : Nat) : GamK := gam (P := qP) [zBf N]
def jH (N : Nat) : LSpec where
 X := qL × Int × RT1 × RT1
 Y := (RT1 × RT1)
 p := fun s => rdS 26 0 [(0, .lst 9), (2, .ptr 2 0), (3, .ptr 3 0), (4, .int .i64)] [(2, .row RK1), (3, .row RK1)] s fun ⟨a0, _, _, a1, _⟩ ⟨a2, a3, _⟩ => (a0, a1, a2, a3)
 st := fun u5 => mkS 26 [(0, (AV.list 9 u5.1 none)), (2, (AV.ptr 2 0)), (3, (AV.ptr 3 0)), (4, (qI u5.2.1))] [(2, (zq u5.2.2.1)), (3, (zq u5.2.2.2))] (zc8 5).1.toks 0
 out := fun y => (.exit 0, mkS 26 [(2, (AV.ptr 2 0)), (3, (AV.ptr 3 0))] [(2, (zq y.1)), (3, (zq y.2))] (zc8 5).2.toks 0)
 b := fun u5 α kn ke => (match (decide (u5.2.1 < (u5.1.length : Int))) with | true => (if 0 <= u5.2.1 then (match u5.1[u5.2.1.toNat]? with | some c8 => (match Jv c8 with | some e9 => (match zpW N (e9, u5.2.2.2) with | some y10 => (match (decide (y10 < 0)) with | true => (if 0 <= u5.2.1 then (match u5.1[u5.2.1.toNat]? with | some c11 => (match Jv c11 with | some e12 => (kn (u5.1, (i64 (u5.2.1 + 1)), u5.2.2.1, e12)) | none => none) | none => none) else none) | false => (kn (u5.1, (i64 (u5.2.1 + 1)), u5.2.2))) | none => none) | none => none) | none => none) else none) | false => (ke u5.2.2))
abbrev zvS (N : Nat) (x : qL × Int × RT1 × RT1) : Option ((RT1 × RT1)) := (jH N).L N x
def zld (N : Nat) : FSpec where
 X := qL
 Y := RT1
 ash := [[some 9]]
 S := ⟨[[none, none, none, none, none, none, none, none, none]], [], [], [], []⟩
 pat := fun a b => rdA [.lst 9] [] a b fun ⟨a0, _⟩ _ => a0
 args := fun x => [(AV.list 9 x none)]
 ret := fun y => ⟨(AV.agg (zq y)), [], none, [], [], [], none⟩
 t := fun x α k => (if 0 <= (0 : Int) then (match x[(0 : Int).toNat]? with | some c1 => (match Jv c1 with | some e2 => (match zvS N (x, 1, ((⟨#[]⟩ : ByteArray), (⟨#[]⟩ : ByteArray), (⟨#[]⟩ : ByteArray), (⟨#[]⟩ : ByteArray), 0, 0, 0, 0, 0, ()), e2) with | some y13 => (k y13.2) | none => none) | none => none) | none => none) else none)
abbrev ztz (N : Nat) (x : qL) : Option (RT1) := (zld N).d x
def zgS (N : Nat) : List (Nat × LSpec) := [(5, jH N)]
def zqM : Code := Tryd.f79.body.getD .skip
theorem zrX (N : Nat) : Par (jH N).b := by
 intro x α β kn ke kn' ke' r r' h h1 h2
 revert h
 dsimp only [jH]
 (repeat' (first | (with_reducible refine ze ?_ ?_) | split)) <;> intro h <;> first | exact h1 _ h | exact h2 _ h | cases h
theorem znX (N : Nat) : ji (zn qP) (zAX N) zc8 N (zgS N) 5 zqM (jH N) := fun x α kn ke => by kernel_rfl
theorem zpo (N : Nat) : ZK qP zc8 N (zgS N) 5 (zc 5 zqM) :=
 zD (zd qP) (zi _) zl zc8 N (zgS N) 5 zqM (l := []) (by kernel_rfl) (by kernel_rfl) an (jH N) rfl (fun s x hc h => by dsimp only [jH] at h; exact zJ hc h (fun _ _ => rfl) rfl rfl rfl) (fun _ => rfl) (znX N) (zrX N)
theorem zrd (N : Nat) : Zd (zld N).t := by
 intro x α β k k' r r' h h1
 revert h
 dsimp only [zld]
 (repeat' (first | (with_reducible refine ze ?_ ?_) | split)) <;> intro h <;> first | exact h1 _ h | cases h
theorem zuS (N : Nat) : Zh (zn qP) (zAX N) zc8 (lam N (zgS N)) Tryd.f79 (zld N) := fun x => by kernel_rfl
def zDJ (N : Nat) : Ent qP := zy (zd qP) (zi _) zl 79 Tryd.f79 Tryd.func79 rfl zc8 (lam N (zgS N)) (zm (l := [(5, zc 5 zqM)]) (al (zpo N) an) (by kernel_rfl)) (zld N) (fun _ => ⟨rfl, rfl⟩) (zuS N) (fun _ _ _ h => zu h (fun _ _ => rfl) (fun _ _ => rfl)) (zrd N)
def JR : Nat -> Keep × Keep := anF [(5, ⟨[4], [], [], [(0, 9)], [], [(3, 9)], [], [], false, none, []⟩, ⟨[], [], [], [], [], [(3, 9)], [], [], false, none, []⟩), (14, ⟨[3, 4, 5], [], [1000003], [(0, 9)], [], [], [], [1000003], false, none, []⟩, ⟨[3, 4, 5], [], [1000003], [(0, 9)], [], [], [], [1000003], false, none, []⟩)] [(100012, ([3], []))]
def zy1 (N : Nat) : GamK := gam (P := qP) [zAo N]
def zaA (N : Nat) : LSpec where
 X := qL × Nat × Int × Int × qA
 Y := (qL × Nat × Int × Int × qA)
 p := fun s => rdS 68 0 [(0, .lst 9), (3, .vs0 1000003 9), (4, .int .i64), (5, .int .i64)] [(1000003, .tt)] s fun ⟨a0, a1, a2, a3, _⟩ ⟨a4, _⟩ => (a0, a1, a2, a3, a4)
 st := fun u14 => mkS 68 [(0, (AV.list 9 u14.1 none)), (3, (AV.vs 1000003 0 u14.2.1 9)), (4, (qI u14.2.2.1)), (5, (qI u14.2.2.2.1))] [(1000003, u14.2.2.2.2)] (JR 14).1.toks 0
 out := fun y => (.exit 2, mkS 68 [(0, (AV.list 9 y.1 none)), (3, (AV.vs 1000003 0 y.2.1 9)), (4, (qI y.2.2.1)), (5, (qI y.2.2.2.1))] [(1000003, y.2.2.2.2)] (JR 14).2.toks 0)
 b := fun u14 α kn ke => (match (decide (u14.2.2.2.1 > 0)) with | true => (if 0 <= (i64 (u14.2.2.2.1 - 1)) /\ (i64 (u14.2.2.2.1 - 1)) < (u14.2.1 : Int) then (match Jv (u14.2.2.2.2.drop ((0 + (i64 (u14.2.2.2.1 - 1)).toNat) * 9)) with | some e5 => (if 0 <= u14.2.2.1 then (match u14.1[u14.2.2.1.toNat]? with | some c6 => (match Jv c6 with | some e7 => (match zkK N (e5, e7) with | some y8 => (match (decide (y8 > 0)) with | true => (kn (u14.1, u14.2.1, u14.2.2.1, (i64 (u14.2.2.2.1 - 1)), (u14.2.2.2.2.map dat0))) | false => (ke (u14.1, u14.2.1, u14.2.2.1, u14.2.2.2.1, (u14.2.2.2.2.map dat0)))) | none => none) | none => none) | none => none) else none) | none => none) else none) | false => (ke (u14.1, u14.2.1, u14.2.2.1, u14.2.2.2.1, (u14.2.2.2.2.map dat0))))
abbrev zxZ (N : Nat) (x : qL × Nat × Int × Int × qA) : Option ((qL × Nat × Int × Int × qA)) := (zaA N).L N x
def zdd (N : Nat) : LSpec where
 X := Nat × qL × Int × qA
 Y := (Nat × qA)
 p := fun s => rdS 68 0 [(3, .vs0 1000003 9), (0, .lst 9), (4, .int .i64)] [(1000003, .tt)] s fun ⟨a0, a1, a2, _⟩ ⟨a3, _⟩ => (a0, a1, a2, a3)
 st := fun u5 => mkS 68 [(3, (AV.vs 1000003 0 u5.1 9)), (0, (AV.list 9 u5.2.1 none)), (4, (qI u5.2.2.1))] [(1000003, u5.2.2.2)] (JR 5).1.toks 0
 out := fun y => (.exit 0, mkS 68 [(3, (AV.vs 1000003 0 y.1 9))] [(1000003, y.2)] (JR 5).2.toks 0)
 b := fun u5 α kn ke => (match (decide (u5.2.2.1 < (u5.2.1.length : Int))) with | true => (match zxZ N (u5.2.1, u5.1, u5.2.2.1, ((u5.1 : Nat) : Int), (u5.2.2.2.map dat0)) with | some y9 => (match (decide (y9.2.2.2.1 > 0)) with | true => (if 0 <= (i64 (y9.2.2.2.1 - 1)) /\ (i64 (y9.2.2.2.1 - 1)) < (y9.2.1 : Int) then (match Jv (y9.2.2.2.2.drop ((0 + (i64 (y9.2.2.2.1 - 1)).toNat) * 9)) with | some e10 => (if 0 <= y9.2.2.1 then (match y9.1[y9.2.2.1.toNat]? with | some c11 => (match Jv c11 with | some e12 => (match (((e10.1 == e12.1) && ((e10.2.1 == e12.2.1) && ((e10.2.2.1 == e12.2.2.1) && ((e10.2.2.2.1 == e12.2.2.2.1) && true)))) && ((e10.2.2.2.2.1 == e12.2.2.2.2.1) && ((e10.2.2.2.2.2.1 == e12.2.2.2.2.2.1) && ((e10.2.2.2.2.2.2.1 == e12.2.2.2.2.2.2.1) && ((e10.2.2.2.2.2.2.2.1 == e12.2.2.2.2.2.2.2.1) && ((e10.2.2.2.2.2.2.2.2.1 == e12.2.2.2.2.2.2.2.2.1) && true)))))) with | true => (kn (y9.2.1, y9.1, (i64 (y9.2.2.1 + 1)), (y9.2.2.2.2.map dat0))) | false => (if 0 <= y9.2.2.1 then (match y9.1[y9.2.2.1.toNat]? with | some c13 => (match Jv c13 with | some e14 => (if y9.2.1 * 9 <= y9.2.2.2.2.length /\ (y9.2.1 + [(zq e14)].length) * 104 <= zh then (if 0 <= (i64 (y9.2.2.2.1 + 1)) /\ (i64 (y9.2.2.2.1 + 1)) <= (((y9.2.1 + [(zq e14)].length) : Nat) : Int) then (if 0 <= y9.2.2.2.1 /\ y9.2.2.2.1 <= (((y9.2.1 + [(zq e14)].length) : Nat) : Int) then (if ((0 + y9.2.2.2.1.toNat) + ((y9.2.1 + [(zq e14)].length) - y9.2.2.2.1.toNat)) * 9 <= (y9.2.2.2.2.take (y9.2.1 * 9) ++ [(zq e14)].flatten).length then (if ((0 + (i64 (y9.2.2.2.1 + 1)).toNat) + ((y9.2.1 + [(zq e14)].length) - (i64 (y9.2.2.2.1 + 1)).toNat)) * 9 <= (y9.2.2.2.2.take (y9.2.1 * 9) ++ [(zq e14)].flatten).length then (if 0 <= y9.2.2.1 then (match y9.1[y9.2.2.1.toNat]? with | some c15 => (match Jv c15 with | some e16 => (if 0 <= y9.2.2.2.1 /\ y9.2.2.2.1 < (((y9.2.1 + [(zq e14)].length) : Nat) : Int) then (if ((0 + y9.2.2.2.1.toNat) * 9) + 9 <= (splice (y9.2.2.2.2.take (y9.2.1 * 9) ++ [(zq e14)].flatten) ((0 + (i64 (y9.2.2.2.1 + 1)).toNat) * 9) (((y9.2.2.2.2.take (y9.2.1 * 9) ++ [(zq e14)].flatten).drop ((0 + y9.2.2.2.1.toNat) * 9)).take ((Nat.min ((y9.2.1 + [(zq e14)].length) - y9.2.2.2.1.toNat) ((y9.2.1 + [(zq e14)].length) - (i64 (y9.2.2.2.1 + 1)).toNat)) * 9))).length then (kn ((y9.2.1 + [(zq e14)].length), y9.1, (i64 (y9.2.2.1 + 1)), ((splice (splice (y9.2.2.2.2.take (y9.2.1 * 9) ++ [(zq e14)].flatten) ((0 + (i64 (y9.2.2.2.1 + 1)).toNat) * 9) (((y9.2.2.2.2.take (y9.2.1 * 9) ++ [(zq e14)].flatten).drop ((0 + y9.2.2.2.1.toNat) * 9)).take ((Nat.min ((y9.2.1 + [(zq e14)].length) - y9.2.2.2.1.toNat) ((y9.2.1 + [(zq e14)].length) - (i64 (y9.2.2.2.1 + 1)).toNat)) * 9))) ((0 + y9.2.2.2.1.toNat) * 9) (zq e16)).map dat0))) else none) else none) | none => none) | none => none) else none) else none) else none) else none) else none) else none) | none => none) | none => none) else none)) | none => none) | none => none) else none) | none => none) else none) | false => (if 0 <= y9.2.2.1 then (match y9.1[y9.2.2.1.toNat]? with | some c17 => (match Jv c17 with | some e18 => (if y9.2.1 * 9 <= y9.2.2.2.2.length /\ (y9.2.1 + [(zq e18)].length) * 104 <= zh then (if 0 <= (i64 (y9.2.2.2.1 + 1)) /\ (i64 (y9.2.2.2.1 + 1)) <= (((y9.2.1 + [(zq e18)].length) : Nat) : Int) then (if 0 <= y9.2.2.2.1 /\ y9.2.2.2.1 <= (((y9.2.1 + [(zq e18)].length) : Nat) : Int) then (if ((0 + y9.2.2.2.1.toNat) + ((y9.2.1 + [(zq e18)].length) - y9.2.2.2.1.toNat)) * 9 <= (y9.2.2.2.2.take (y9.2.1 * 9) ++ [(zq e18)].flatten).length then (if ((0 + (i64 (y9.2.2.2.1 + 1)).toNat) + ((y9.2.1 + [(zq e18)].length) - (i64 (y9.2.2.2.1 + 1)).toNat)) * 9 <= (y9.2.2.2.2.take (y9.2.1 * 9) ++ [(zq e18)].flatten).length then (if 0 <= y9.2.2.1 then (match y9.1[y9.2.2.1.toNat]? with | some c19 => (match Jv c19 with | some e20 => (if 0 <= y9.2.2.2.1 /\ y9.2.2.2.1 < (((y9.2.1 + [(zq e18)].length) : Nat) : Int) then (if ((0 + y9.2.2.2.1.toNat) * 9) + 9 <= (splice (y9.2.2.2.2.take (y9.2.1 * 9) ++ [(zq e18)].flatten) ((0 + (i64 (y9.2.2.2.1 + 1)).toNat) * 9) (((y9.2.2.2.2.take (y9.2.1 * 9) ++ [(zq e18)].flatten).drop ((0 + y9.2.2.2.1.toNat) * 9)).take ((Nat.min ((y9.2.1 + [(zq e18)].length) - y9.2.2.2.1.toNat) ((y9.2.1 + [(zq e18)].length) - (i64 (y9.2.2.2.1 + 1)).toNat)) * 9))).length then (kn ((y9.2.1 + [(zq e18)].length), y9.1, (i64 (y9.2.2.1 + 1)), ((splice (splice (y9.2.2.2.2.take (y9.2.1 * 9) ++ [(zq e18)].flatten) ((0 + (i64 (y9.2.2.2.1 + 1)).toNat) * 9) (((y9.2.2.2.2.take (y9.2.1 * 9) ++ [(zq e18)].flatten).drop ((0 + y9.2.2.2.1.toNat) * 9)).take ((Nat.min ((y9.2.1 + [(zq e18)].length) - y9.2.2.2.1.toNat) ((y9.2.1 + [(zq e18)].length) - (i64 (y9.2.2.2.1 + 1)).toNat)) * 9))) ((0 + y9.2.2.2.1.toNat) * 9) (zq e20)).map dat0))) else none) else none) | none => none) | none => none) else none) else none) else none) else none) else none) else none) | none => none) | none => none) else none)) | none => none) | false => (ke (u5.1, (u5.2.2.2.map dat0))))
abbrev zAH (N : Nat) (x : Nat × qL × Int × qA) : Option ((Nat × qA)) := (zdd N).L N x
def znb (N : Nat) : FSpec where
 X := qL
 Y := qL
 ash := [[some 9]]
 S := ⟨[[some 2000009]], [], [], [], []⟩
 pat := fun a b => rdA [.lst 9] [] a b fun ⟨a0, _⟩ _ => a0
 args := fun x => [(AV.list 9 x none)]
 ret := fun y => ⟨(AV.list 9 y (some 2560000000)), [], none, [], [2560000000], [], none⟩
 t := fun x α k => (match zAH N (0, x, 0, ([] : List AV)) with | some y21 => (if y21.1 * 9 <= y21.2.length then (k (zK (y21.2.take (y21.1 * 9)) 9 y21.1)) else none) | none => none)
abbrev zht (N : Nat) (x : qL) : Option (qL) := (znb N).d x
def zbL (N : Nat) : List (Nat × LSpec) := [(5, zdd N), (14, zaA N)]
def zeX : Code := Tryd.f80.body.getD .skip
theorem zmH (N : Nat) : Par (zaA N).b := by
 intro x α β kn ke kn' ke' r r' h h1 h2
 revert h
 dsimp only [zaA]
 (repeat' (first | (with_reducible refine ze ?_ ?_) | split)) <;> intro h <;> first | exact h1 _ h | exact h2 _ h | cases h
theorem zkN (N : Nat) : ji (JT qP [51]) (zy1 N) JR N (zbL N) 14 zeX (zaA N) := fun x α kn ke => by kernel_rfl
theorem zeQ (N : Nat) : ZK qP JR N (zbL N) 14 (zc 14 zeX) :=
 zD (zL qP [51]) (zi _) zl JR N (zbL N) 14 zeX (l := []) (by kernel_rfl) (by kernel_rfl) an (zaA N) rfl (fun s x hc h => by dsimp only [zaA] at h; exact zJ hc h (fun _ _ => rfl) rfl rfl rfl) (fun _ => rfl) (zkN N) (zmH N)
theorem zsZ (N : Nat) : Par (zdd N).b := by
 intro x α β kn ke kn' ke' r r' h h1 h2
 revert h
 dsimp only [zdd]
 (repeat' (first | (with_reducible refine ze ?_ ?_) | split)) <;> intro h <;> first | exact h1 _ h | exact h2 _ h | cases h
theorem zn3 (N : Nat) : ji (JT qP [51]) (zy1 N) JR N (zbL N) 5 zeX (zdd N) := fun x α kn ke => by kernel_rfl
theorem znv (N : Nat) : ZK qP JR N (zbL N) 5 (zc 5 zeX) :=
 zD (zL qP [51]) (zi _) zl JR N (zbL N) 5 zeX (l := [(14, zc 14 zeX)]) (by kernel_rfl) (by kernel_rfl) (al (zeQ N) an) (zdd N) rfl (fun s x hc h => by dsimp only [zdd] at h; exact zJ hc h (fun _ _ => rfl) rfl rfl rfl) (fun _ => rfl) (zn3 N) (zsZ N)
theorem zrv (N : Nat) : Zd (znb N).t := by
 intro x α β k k' r r' h h1
 revert h
 dsimp only [znb]
 (repeat' (first | (with_reducible refine ze ?_ ?_) | split)) <;> intro h <;> first | exact h1 _ h | cases h
theorem zu4 (N : Nat) : Zh (JT qP [51]) (zy1 N) JR (lam N (zbL N)) Tryd.f80 (znb N) := fun x => by kernel_rfl
def zDP (N : Nat) : Ent qP := zy (zL qP [51]) (zi _) zl 80 Tryd.f80 Tryd.func80 rfl JR (lam N (zbL N)) (zm (l := [(5, zc 5 zeX), (14, zc 14 zeX)]) (al (znv N) (al (zeQ N) an)) (by kernel_rfl)) (znb N) (fun _ => ⟨rfl, rfl⟩) (zu4 N) (fun _ _ _ h => zu h (fun _ _ => rfl) (fun _ _ => rfl)) (zrv N)
def zb8 : Nat -> Keep × Keep := anL [(8, ⟨[5], [], [], [(0, 9), (1, 9)], [], [], [], [], false, none, []⟩, qK [4] [] [])]
def zBK (N : Nat) : GamK := gam (P := qP) []
def Z9 (N : Nat) : LSpec where
 X := qL × qL × Int
 Y := (Bool) ⊕ (Unit)
 p := fun s => rdS 26 0 [(0, .lst 9), (1, .lst 9), (5, .int .i64)] [] s fun ⟨a0, a1, a2, _⟩ _ => (a0, a1, a2)
 st := fun u8 => mkS 26 [(0, (AV.list 9 u8.1 none)), (1, (AV.list 9 u8.2.1 none)), (5, (qI u8.2.2))] [] (zb8 8).1.toks 0
 out := fun y => match y with
  | .inl y => (.ret, mkS 26 [(4, (AV.v (.bool y)))] [] (zb8 8).2.toks 0)
  | .inr y => (.exit 0, mkS 26 [] [] (zb8 8).2.toks 0)
 b := fun u8 α kn ke => (match (decide (u8.2.2 < (u8.1.length : Int))) with | true => (if 0 <= u8.2.2 then (match u8.1[u8.2.2.toNat]? with | some c1 => (match Jv c1 with | some e2 => (if 0 <= u8.2.2 then (match u8.2.1[u8.2.2.toNat]? with | some c3 => (match Jv c3 with | some e4 => (match (!(((e2.1 == e4.1) && ((e2.2.1 == e4.2.1) && ((e2.2.2.1 == e4.2.2.1) && ((e2.2.2.2.1 == e4.2.2.2.1) && true)))) && ((e2.2.2.2.2.1 == e4.2.2.2.2.1) && ((e2.2.2.2.2.2.1 == e4.2.2.2.2.2.1) && ((e2.2.2.2.2.2.2.1 == e4.2.2.2.2.2.2.1) && ((e2.2.2.2.2.2.2.2.1 == e4.2.2.2.2.2.2.2.1) && ((e2.2.2.2.2.2.2.2.2.1 == e4.2.2.2.2.2.2.2.2.1) && true))))))) with | true => (ke (.inl false)) | false => (kn (u8.1, u8.2.1, (i64 (u8.2.2 + 1))))) | none => none) | none => none) else none) | none => none) | none => none) else none) | false => (ke (.inr ())))
abbrev zvQ (N : Nat) (x : qL × qL × Int) : Option ((Bool) ⊕ (Unit)) := (Z9 N).L N x
def zlF (N : Nat) : FSpec where
 X := qL × qL
 Y := Bool
 ash := [[some 9], [some 9]]
 S := ⟨[[none]], [], [], [], []⟩
 pat := fun a b => rdA [.lst 9, .lst 9] [] a b fun ⟨a0, a1, _⟩ _ => (a0, a1)
 args := fun x => [(AV.list 9 x.1 none), (AV.list 9 x.2 none)]
 ret := fun y => ⟨(AV.v (.bool y)), [], none, [], [], [], none⟩
 t := fun x α k => (match ((x.1.length : Int) != (x.2.length : Int)) with | true => (k false) | false => (match zvQ N (x.1, x.2, 0) with | some y5 => (match y5 with | .inl z6 => (k z6) | .inr z7 => (k true)) | none => none))
abbrev zid (N : Nat) (x : qL × qL) : Option (Bool) := (zlF N).d x
def zhb (N : Nat) : List (Nat × LSpec) := [(8, Z9 N)]
def zqL : Code := Tryd.f74.body.getD .skip
theorem zuh (N : Nat) : Par (Z9 N).b := by
 intro x α β kn ke kn' ke' r r' h h1 h2
 revert h
 dsimp only [Z9]
 (repeat' (first | (with_reducible refine ze ?_ ?_) | split)) <;> intro h <;> first | exact h1 _ h | exact h2 _ h | cases h
theorem zpj (N : Nat) : ji (zn qP) (zBK N) zb8 N (zhb N) 8 zqL (Z9 N) := fun x α kn ke => by kernel_rfl
theorem znH (N : Nat) : ZK qP zb8 N (zhb N) 8 (zc 8 zqL) :=
 zD (zd qP) (zi _) zl zb8 N (zhb N) 8 zqL (l := []) (by kernel_rfl) (by kernel_rfl) an (Z9 N) rfl (fun s x hc h => by dsimp only [Z9] at h; exact zJ hc h (fun _ _ => rfl) rfl rfl rfl) (fun _ => rfl) (zpj N) (zuh N)
theorem zvI (N : Nat) : Zd (zlF N).t := by
 intro x α β k k' r r' h h1
 revert h
 dsimp only [zlF]
 (repeat' (first | (with_reducible refine ze ?_ ?_) | split)) <;> intro h <;> first | exact h1 _ h | cases h
theorem zvk (N : Nat) : Zh (zn qP) (zBK N) zb8 (lam N (zhb N)) Tryd.f74 (zlF N) := fun x => by kernel_rfl
def zBy (N : Nat) : Ent qP := zy (zd qP) (zi _) zl 74 Tryd.f74 Tryd.func74 rfl zb8 (lam N (zhb N)) (zm (l := [(8, zc 8 zqL)]) (al (znH N) an) (by kernel_rfl)) (zlF N) (fun _ => ⟨rfl, rfl⟩) (zvk N) (fun _ _ _ h => zu h (fun _ _ => rfl) (fun _ _ => rfl)) (zvI N)
def Jb : Nat -> Keep × Keep := anL [(4, ⟨[5], [], [], [(0, 9), (1, 9)], [], [], [], [], false, none, []⟩, qK [4] [] []), (12, ⟨[5, 6], [], [], [(0, 9), (1, 9)], [], [], [], [], false, none, []⟩, ⟨[4, 5], [], [], [(0, 9), (1, 9)], [], [], [], [], false, none, []⟩)]
def zxF (N : Nat) : GamK := gam (P := qP) []
def Zx (N : Nat) : LSpec where
 X := qL × qL × Int × Int
 Y := (qL × qL × Bool × Int) ⊕ (qL × qL × Int)
 p := fun s => rdS 28 0 [(0, .lst 9), (1, .lst 9), (5, .int .i64), (6, .int .i64)] [] s fun ⟨a0, a1, a2, a3, _⟩ _ => (a0, a1, a2, a3)
 st := fun u12 => mkS 28 [(0, (AV.list 9 u12.1 none)), (1, (AV.list 9 u12.2.1 none)), (5, (qI u12.2.2.1)), (6, (qI u12.2.2.2))] [] (Jb 12).1.toks 0
 out := fun y => match y with
  | .inl y => (.ret, mkS 28 [(0, (AV.list 9 y.1 none)), (1, (AV.list 9 y.2.1 none)), (4, (AV.v (.bool y.2.2.1))), (5, (qI y.2.2.2))] [] (Jb 12).2.toks 0)
  | .inr y => (.exit 2, mkS 28 [(0, (AV.list 9 y.1 none)), (1, (AV.list 9 y.2.1 none)), (5, (qI y.2.2))] [] (Jb 12).2.toks 0)
 b := fun u12 α kn ke => (match (decide (u12.2.2.2 < (u12.2.1.length : Int))) with | true => (if 0 <= u12.2.2.1 then (match u12.1[u12.2.2.1.toNat]? with | some c1 => (match Jv c1 with | some e2 => (if 0 <= u12.2.2.2 then (match u12.2.1[u12.2.2.2.toNat]? with | some c3 => (match Jv c3 with | some e4 => (match (((e2.1 == e4.1) && ((e2.2.1 == e4.2.1) && ((e2.2.2.1 == e4.2.2.1) && ((e2.2.2.2.1 == e4.2.2.2.1) && true)))) && ((e2.2.2.2.2.1 == e4.2.2.2.2.1) && ((e2.2.2.2.2.2.1 == e4.2.2.2.2.2.1) && ((e2.2.2.2.2.2.2.1 == e4.2.2.2.2.2.2.1) && ((e2.2.2.2.2.2.2.2.1 == e4.2.2.2.2.2.2.2.1) && ((e2.2.2.2.2.2.2.2.2.1 == e4.2.2.2.2.2.2.2.2.1) && true)))))) with | true => (ke (.inl (u12.1, u12.2.1, true, u12.2.2.1))) | false => (kn (u12.1, u12.2.1, u12.2.2.1, (i64 (u12.2.2.2 + 1))))) | none => none) | none => none) else none) | none => none) | none => none) else none) | false => (ke (.inr (u12.1, u12.2.1, u12.2.2.1))))
abbrev zhR (N : Nat) (x : qL × qL × Int × Int) : Option ((qL × qL × Bool × Int) ⊕ (qL × qL × Int)) := (Zx N).L N x
def Z4 (N : Nat) : LSpec where
 X := qL × qL × Int
 Y := (Bool) ⊕ (Unit)
 p := fun s => rdS 28 0 [(0, .lst 9), (1, .lst 9), (5, .int .i64)] [] s fun ⟨a0, a1, a2, _⟩ _ => (a0, a1, a2)
 st := fun u4 => mkS 28 [(0, (AV.list 9 u4.1 none)), (1, (AV.list 9 u4.2.1 none)), (5, (qI u4.2.2))] [] (Jb 4).1.toks 0
 out := fun y => match y with
  | .inl y => (.ret, mkS 28 [(4, (AV.v (.bool y)))] [] (Jb 4).2.toks 0)
  | .inr y => (.exit 0, mkS 28 [] [] (Jb 4).2.toks 0)
 b := fun u4 α kn ke => (match (decide (u4.2.2 < (u4.1.length : Int))) with | true => (match zhR N (u4.1, u4.2.1, u4.2.2, 0) with | some y5 => (match y5 with | .inl z6 => (ke (.inl z6.2.2.1)) | .inr z7 => (kn (z7.1, z7.2.1, (i64 (z7.2.2 + 1))))) | none => none) | false => (ke (.inr ())))
abbrev zv9 (N : Nat) (x : qL × qL × Int) : Option ((Bool) ⊕ (Unit)) := (Z4 N).L N x
def zlL (N : Nat) : FSpec where
 X := qL × qL
 Y := Bool
 ash := [[some 9], [some 9]]
 S := ⟨[[none]], [], [], [], []⟩
 pat := fun a b => rdA [.lst 9, .lst 9] [] a b fun ⟨a0, a1, _⟩ _ => (a0, a1)
 args := fun x => [(AV.list 9 x.1 none), (AV.list 9 x.2 none)]
 ret := fun y => ⟨(AV.v (.bool y)), [], none, [], [], [], none⟩
 t := fun x α k => (match zv9 N (x.1, x.2, 0) with | some y8 => (match y8 with | .inl z9 => (k z9) | .inr z10 => (k false)) | none => none)
abbrev zyT (N : Nat) (x : qL × qL) : Option (Bool) := (zlL N).d x
def zbC (N : Nat) : List (Nat × LSpec) := [(4, Z4 N), (12, Zx N)]
def zfg : Code := Tryd.f82.body.getD .skip
theorem zon (N : Nat) : Par (Zx N).b := by
 intro x α β kn ke kn' ke' r r' h h1 h2
 revert h
 dsimp only [Zx]
 (repeat' (first | (with_reducible refine ze ?_ ?_) | split)) <;> intro h <;> first | exact h1 _ h | exact h2 _ h | cases h
theorem zkV (N : Nat) : ji (zn qP) (zxF N) Jb N (zbC N) 12 zfg (Zx N) := fun x α kn ke => by kernel_rfl
theorem zeA (N : Nat) : ZK qP Jb N (zbC N) 12 (zc 12 zfg) :=
 zD (zd qP) (zi _) zl Jb N (zbC N) 12 zfg (l := []) (by kernel_rfl) (by kernel_rfl) an (Zx N) rfl (fun s x hc h => by dsimp only [Zx] at h; exact zJ hc h (fun _ _ => rfl) rfl rfl rfl) (fun _ => rfl) (zkV N) (zon N)
theorem zsq (N : Nat) : Par (Z4 N).b := by
 intro x α β kn ke kn' ke' r r' h h1 h2
 revert h
 dsimp only [Z4]
 (repeat' (first | (with_reducible refine ze ?_ ?_) | split)) <;> intro h <;> first | exact h1 _ h | exact h2 _ h | cases h
theorem zmu (N : Nat) : ji (zn qP) (zxF N) Jb N (zbC N) 4 zfg (Z4 N) := fun x α kn ke => by kernel_rfl
theorem zow (N : Nat) : ZK qP Jb N (zbC N) 4 (zc 4 zfg) :=
 zD (zd qP) (zi _) zl Jb N (zbC N) 4 zfg (l := [(12, zc 12 zfg)]) (by kernel_rfl) (by kernel_rfl) (al (zeA N) an) (Z4 N) rfl (fun s x hc h => by dsimp only [Z4] at h; exact zJ hc h (fun _ _ => rfl) rfl rfl rfl) (fun _ => rfl) (zmu N) (zsq N)
theorem zvE (N : Nat) : Zd (zlL N).t := by
 intro x α β k k' r r' h h1
 revert h
 dsimp only [zlL]
 (repeat' (first | (with_reducible refine ze ?_ ?_) | split)) <;> intro h <;> first | exact h1 _ h | cases h
theorem zst (N : Nat) : Zh (zn qP) (zxF N) Jb (lam N (zbC N)) Tryd.f82 (zlL N) := fun x => by kernel_rfl
def zDX (N : Nat) : Ent qP := zy (zd qP) (zi _) zl 82 Tryd.f82 Tryd.func82 rfl Jb (lam N (zbC N)) (zm (l := [(4, zc 4 zfg), (12, zc 12 zfg)]) (al (zow N) (al (zeA N) an)) (by kernel_rfl)) (zlL N) (fun _ => ⟨rfl, rfl⟩) (zst N) (fun _ _ _ h => zu h (fun _ _ => rfl) (fun _ _ => rfl)) (zvE N)
def Jf : Nat -> Keep × Keep := anL [(4, ⟨[3], [], [], [(0, 25)], [], [], [], [], false, none, []⟩, qK [2] [] []), (17, ⟨[3, 5], [], [], [(0, 25), (4, 9)], [], [], [], [], false, none, []⟩, ⟨[2, 3], [], [], [(0, 25)], [], [], [], [], false, none, []⟩)]
def zyF (N : Nat) : GamK := gam (P := qP) [zDJ N, zDP N, zBy N, zBf N, zDX N]
def Zy (N : Nat) : LSpec where
 X := qL × qL × Int × Int
 Y := (qL × Bool × Int) ⊕ (qL × Int)
 p := fun s => rdS 70 0 [(0, .lst 25), (4, .lst 9), (3, .int .i64), (5, .int .i64)] [] s fun ⟨a0, a1, a2, a3, _⟩ _ => (a0, a1, a2, a3)
 st := fun u17 => mkS 70 [(0, (AV.list 25 u17.1 none)), (4, (AV.list 9 u17.2.1 none)), (3, (qI u17.2.2.1)), (5, (qI u17.2.2.2))] [] (Jf 17).1.toks 0
 out := fun y => match y with
  | .inl y => (.ret, mkS 70 [(0, (AV.list 25 y.1 none)), (2, (AV.v (.bool y.2.1))), (3, (qI y.2.2))] [] (Jf 17).2.toks 0)
  | .inr y => (.exit 2, mkS 70 [(0, (AV.list 25 y.1 none)), (3, (qI y.2))] [] (Jf 17).2.toks 0)
 b := fun u17 α kn ke => (match (decide (u17.2.2.2 < u17.2.2.1)) with | true => (if 0 <= u17.2.2.2 then (match u17.1[u17.2.2.2.toNat]? with | some c14 => (match ((c14.drop 9).drop 0)[0]? with | some x15 => (match Z1 9 x15 with | some l16 => (match zyT N (u17.2.1, l16) with | some y17 => (match y17 with | true => (ke (.inl (u17.1, false, u17.2.2.1))) | false => (kn (u17.1, u17.2.1, u17.2.2.1, (i64 (u17.2.2.2 + 1))))) | none => none) | none => none) | none => none) | none => none) else none) | false => (ke (.inr (u17.1, u17.2.2.1))))
abbrev zdI (N : Nat) (x : qL × qL × Int × Int) : Option ((qL × Bool × Int) ⊕ (qL × Int)) := (Zy N).L N x
def ZH (N : Nat) : LSpec where
 X := qL × Int
 Y := (Bool) ⊕ (Unit)
 p := fun s => rdS 70 0 [(0, .lst 25), (3, .int .i64)] [] s fun ⟨a0, a1, _⟩ _ => (a0, a1)
 st := fun u4 => mkS 70 [(0, (AV.list 25 u4.1 none)), (3, (qI u4.2))] [] (Jf 4).1.toks 0
 out := fun y => match y with
  | .inl y => (.ret, mkS 70 [(2, (AV.v (.bool y)))] [] (Jf 4).2.toks 0)
  | .inr y => (.exit 0, mkS 70 [] [] (Jf 4).2.toks 0)
 b := fun u4 α kn ke => (match (decide (u4.2 < (u4.1.length : Int))) with | true => (if 0 <= u4.2 then (match u4.1[u4.2.toNat]? with | some c1 => (match ((c1.drop 9).drop 0)[0]? with | some x2 => (match Z1 9 x2 with | some l3 => (match ((l3.length : Int) == 0) with | true => (ke (.inl false)) | false => (if 0 <= u4.2 then (match u4.1[u4.2.toNat]? with | some c4 => (match Jv (c4.drop 0) with | some e5 => (match ztz N l3 with | some y6 => (match (!(((e5.1 == y6.1) && ((e5.2.1 == y6.2.1) && ((e5.2.2.1 == y6.2.2.1) && ((e5.2.2.2.1 == y6.2.2.2.1) && true)))) && ((e5.2.2.2.2.1 == y6.2.2.2.2.1) && ((e5.2.2.2.2.2.1 == y6.2.2.2.2.2.1) && ((e5.2.2.2.2.2.2.1 == y6.2.2.2.2.2.2.1) && ((e5.2.2.2.2.2.2.2.1 == y6.2.2.2.2.2.2.2.1) && ((e5.2.2.2.2.2.2.2.2.1 == y6.2.2.2.2.2.2.2.2.1) && true))))))) with | true => (ke (.inl false)) | false => (match zht N l3 with | some y7 => (match zid N (l3, y7) with | some y8 => (match (!y8) with | true => (ke (.inl false)) | false => (match (decide (u4.2 > 0)) with | true => (if 0 <= (i64 (u4.2 - 1)) then (match u4.1[(i64 (u4.2 - 1)).toNat]? with | some c9 => (match Jv (c9.drop 0) with | some e10 => (if 0 <= u4.2 then (match u4.1[u4.2.toNat]? with | some c11 => (match Jv (c11.drop 0) with | some e12 => (match zpW N (e10, e12) with | some y13 => (match (decide (y13 >= 0)) with | true => (ke (.inl false)) | false => (match zdI N (u4.1, l3, u4.2, 0) with | some y18 => (match y18 with | .inl z19 => (ke (.inl z19.2.1)) | .inr z20 => (kn (z20.1, (i64 (z20.2 + 1))))) | none => none)) | none => none) | none => none) | none => none) else none) | none => none) | none => none) else none) | false => (match zdI N (u4.1, l3, u4.2, 0) with | some y21 => (match y21 with | .inl z22 => (ke (.inl z22.2.1)) | .inr z23 => (kn (z23.1, (i64 (z23.2 + 1))))) | none => none))) | none => none) | none => none)) | none => none) | none => none) | none => none) else none)) | none => none) | none => none) | none => none) else none) | false => (ke (.inr ())))
abbrev zoT (N : Nat) (x : qL × Int) : Option ((Bool) ⊕ (Unit)) := (ZH N).L N x
def zif (N : Nat) : FSpec where
 X := qL
 Y := Bool
 ash := [[some 25]]
 S := ⟨[[none]], [], [], [], []⟩
 pat := fun a b => rdA [.lst 25] [] a b fun ⟨a0, _⟩ _ => a0
 args := fun x => [(AV.list 25 x none)]
 ret := fun y => ⟨(AV.v (.bool y)), [], none, [], [], [], none⟩
 t := fun x α k => (match zoT N (x, 0) with | some y24 => (match y24 with | .inl z25 => (k z25) | .inr z26 => (k true)) | none => none)
abbrev zc3 (N : Nat) (x : qL) : Option (Bool) := (zif N).d x
def zb6 (N : Nat) : List (Nat × LSpec) := [(4, ZH N), (17, Zy N)]
def ze1 : Code := Tryd.f56.body.getD .skip
theorem zn9 (N : Nat) : Par (Zy N).b := by
 intro x α β kn ke kn' ke' r r' h h1 h2
 revert h
 dsimp only [Zy]
 (repeat' (first | (with_reducible refine ze ?_ ?_) | split)) <;> intro h <;> first | exact h1 _ h | exact h2 _ h | cases h
theorem zlI (N : Nat) : ji (zn qP) (zyF N) Jf N (zb6 N) 17 ze1 (Zy N) := fun x α kn ke => by kernel_rfl
theorem zey (N : Nat) : ZK qP Jf N (zb6 N) 17 (zc 17 ze1) :=
 zD (zd qP) (zi _) zl Jf N (zb6 N) 17 ze1 (l := []) (by kernel_rfl) (by kernel_rfl) an (Zy N) rfl (fun s x hc h => by dsimp only [Zy] at h; exact zJ hc h (fun _ _ => rfl) rfl rfl rfl) (fun _ => rfl) (zlI N) (zn9 N)
theorem ztM (N : Nat) : Par (ZH N).b := by
 intro x α β kn ke kn' ke' r r' h h1 h2
 revert h
 dsimp only [ZH]
 (repeat' (first | (with_reducible refine ze ?_ ?_) | split)) <;> intro h <;> first | exact h1 _ h | exact h2 _ h | cases h
theorem zoe (N : Nat) : ji (zn qP) (zyF N) Jf N (zb6 N) 4 ze1 (ZH N) := fun x α kn ke => by kernel_rfl
theorem zmD (N : Nat) : ZK qP Jf N (zb6 N) 4 (zc 4 ze1) :=
 zD (zd qP) (zi _) zl Jf N (zb6 N) 4 ze1 (l := [(17, zc 17 ze1)]) (by kernel_rfl) (by kernel_rfl) (al (zey N) an) (ZH N) rfl (fun s x hc h => by dsimp only [ZH] at h; exact zJ hc h (fun _ _ => rfl) rfl rfl rfl) (fun _ => rfl) (zoe N) (ztM N)
theorem zuj (N : Nat) : Zd (zif N).t := by
 intro x α β k k' r r' h h1
 revert h
 dsimp only [zif]
 (repeat' (first | (with_reducible refine ze ?_ ?_) | split)) <;> intro h <;> first | exact h1 _ h | cases h
theorem zqR (N : Nat) : Zh (zn qP) (zyF N) Jf (lam N (zb6 N)) Tryd.f56 (zif N) := fun x => by kernel_rfl
def zyz (N : Nat) : Ent qP := zy (zd qP) (zi _) zl 56 Tryd.f56 Tryd.func56 rfl Jf (lam N (zb6 N)) (zm (l := [(4, zc 4 ze1), (17, zc 17 ze1)]) (al (zmD N) (al (zey N) an)) (by kernel_rfl)) (zif N) (fun _ => ⟨rfl, rfl⟩) (zqR N) (fun _ _ _ h => zu h (fun _ _ => rfl) (fun _ _ => rfl)) (zuj N)
abbrev RK6 : List Ck := [.sl 29]
abbrev RT6 : Type := qL × Unit
def zfU (c : List AV) : Option RT6 := dec RK6 c
abbrev RK7 : List Ck := [.int .i64, .int .i64, .str, .int .i64, .str, .str, .str, .str, .int .i64, .int .i64, .int .i64, .int .i64, .int .i64, .sl 9, .int .i64, .int .i64, .int .i64, .int .i64, .int .i64, .int .i64, .int .i64, .int .i64, .int .i64, .int .i64, .int .i64, .int .i64, .int .i64, .int .i64, .int .i64]
abbrev RT7 : Type := Int × Int × ByteArray × Int × ByteArray × ByteArray × ByteArray × ByteArray × Int × Int × Int × Int × Int × qL × Int × Int × Int × Int × Int × Int × Int × Int × Int × Int × Int × Int × Int × Int × Int × Unit
def zlq (c : List AV) : Option RT7 := dec RK7 c
def zN (e : RT7) : List AV := enc RK7 e
theorem zzM (e : RT7) : zlq (zN e) = some e := zfk (ks := RK7) e rfl
@[reducible] def zx (e : RT7) : RT0 := (e.2.2.2.2)
def zvO : Nat -> Keep × Keep := anL []
def zEk (N : Nat) : GamK := gam (P := qP) []
def zkg (N : Nat) : FSpec where
 X := RT7
 Y := Bool
 ash := [[none, none, none, none, none, none, none, none, none, none, none, none, none, some 9, none, none, none, none, none, none, none, none, none, none, none, none, none, none, none]]
 S := ⟨[[none]], [], [], [], []⟩
 pat := fun a b => rdA [.agg RK7] [] a b fun ⟨a0, _⟩ _ => a0
 args := fun x => [(AV.agg (zN x))]
 ret := fun y => ⟨(AV.v (.bool y)), [], none, [], [], [], none⟩
 t := fun x α k => (match (x.1 == 1) with | true => (k true) | false => (match (x.1 == 2) with | true => (k true) | false => (k (x.1 == 6))))
abbrev zhK (N : Nat) (x : RT7) : Option (Bool) := (zkg N).d x
theorem zvK (N : Nat) : Zd (zkg N).t := by
 intro x α β k k' r r' h h1
 revert h
 dsimp only [zkg]
 (repeat' (first | (with_reducible refine ze ?_ ?_) | split)) <;> intro h <;> first | exact h1 _ h | cases h
theorem zrA (N : Nat) : Zh (zn qP) (zEk N) zvO (lam N []) Tryd.f15 (zkg N) := fun x => by kernel_rfl
def zyC (N : Nat) : Ent qP := zy (zd qP) (zi _) zl 15 Tryd.f15 Tryd.func15 rfl zvO (lam N []) (zm (l := []) an (by kernel_rfl)) (zkg N) (fun _ => ⟨rfl, rfl⟩) (zrA N) (fun _ _ _ h => zu h (fun _ _ => rfl) (fun _ _ => rfl)) (zvK N)
def zv3 : Nat -> Keep × Keep := anL []
def zEh (N : Nat) : GamK := gam (P := qP) [zyC N]
def zj1 (N : Nat) : FSpec where
 X := RT7 × RT7
 Y := Bool
 ash := [[none, none, none, none, none, none, none, none, none, none, none, none, none, some 9, none, none, none, none, none, none, none, none, none, none, none, none, none, none, none], [none, none, none, none, none, none, none, none, none, none, none, none, none, some 9, none, none, none, none, none, none, none, none, none, none, none, none, none, none, none]]
 S := ⟨[[none]], [], [], [], []⟩
 pat := fun a b => rdA [.agg RK7, .agg RK7] [] a b fun ⟨a0, a1, _⟩ _ => (a0, a1)
 args := fun x => [(AV.agg (zN x.1)), (AV.agg (zN x.2))]
 ret := fun y => ⟨(AV.v (.bool y)), [], none, [], [], [], none⟩
 t := fun x α k => (match (x.1.1 == 1) with | true => (match zhK N x.2 with | some y1 => (k y1) | none => none) | false => (match (x.1.1 == 2) with | true => (match (x.2.1 == 1) with | true => (k true) | false => (k (x.2.1 == 6))) | false => (match (x.1.1 == 6) with | true => (match zhK N x.2 with | some y2 => (k (!y2)) | none => none) | false => (k true))))
abbrev zko (N : Nat) (x : RT7 × RT7) : Option (Bool) := (zj1 N).d x
theorem zsB (N : Nat) : Zd (zj1 N).t := by
 intro x α β k k' r r' h h1
 revert h
 dsimp only [zj1]
 (repeat' (first | (with_reducible refine ze ?_ ?_) | split)) <;> intro h <;> first | exact h1 _ h | cases h
theorem zuW (N : Nat) : Zh (zn qP) (zEh N) zv3 (lam N []) Tryd.f96 (zj1 N) := fun x => by kernel_rfl
def zCB (N : Nat) : Ent qP := zy (zd qP) (zi _) zl 96 Tryd.f96 Tryd.func96 rfl zv3 (lam N []) (zm (l := []) an (by kernel_rfl)) (zj1 N) (fun _ => ⟨rfl, rfl⟩) (zuW N) (fun _ _ _ h => zu h (fun _ _ => rfl) (fun _ _ => rfl)) (zsB N)
def zxs : Nat -> Keep × Keep := anL []
def zEi (N : Nat) : GamK := gam (P := qP) []
def zki (N : Nat) : FSpec where
 X := Int
 Y := Bool
 ash := [[none]]
 S := ⟨[[none]], [], [], [], []⟩
 pat := fun a b => rdA [.int .i64] [] a b fun ⟨a0, _⟩ _ => a0
 args := fun x => [(AV.v (.int .i64 x))]
 ret := fun y => ⟨(AV.v (.bool y)), [], none, [], [], [], none⟩
 t := fun x α k => (match (x != 1) with | true => (k (x != 3)) | false => (k false))
abbrev zhI (N : Nat) (x : Int) : Option (Bool) := (zki N).d x
theorem ztC (N : Nat) : Zd (zki N).t := by
 intro x α β k k' r r' h h1
 revert h
 dsimp only [zki]
 (repeat' (first | (with_reducible refine ze ?_ ?_) | split)) <;> intro h <;> first | exact h1 _ h | cases h
theorem ztP (N : Nat) : Zh (zn qP) (zEi N) zxs (lam N []) Tryd.f77 (zki N) := fun x => by kernel_rfl
def zB1 (N : Nat) : Ent qP := zy (zd qP) (zi _) zl 77 Tryd.f77 Tryd.func77 rfl zxs (lam N []) (zm (l := []) an (by kernel_rfl)) (zki N) (fun _ => ⟨rfl, rfl⟩) (ztP N) (fun _ _ _ h => zu h (fun _ _ => rfl) (fun _ _ => rfl)) (ztC N)
def zwx : Nat -> Keep × Keep := anL []
def zEl (N : Nat) : GamK := gam (P := qP) [zBy N]
def zk5 (N : Nat) : FSpec where
 X := RT3 × RT3
 Y := Bool
 ash := [[some 9, none, none, none, none, none, none, none, none, none, none, none, none, none, none, none], [some 9, none, none, none, none, none, none, none, none, none, none, none, none, none, none, none]]
 S := ⟨[[none]], [], [], [], []⟩
 pat := fun a b => rdA [.agg RK3, .agg RK3] [] a b fun ⟨a0, a1, _⟩ _ => (a0, a1)
 args := fun x => [(AV.agg (zCs x.1)), (AV.agg (zCs x.2))]
 ret := fun y => ⟨(AV.v (.bool y)), [], none, [], [], [], none⟩
 t := fun x α k => (match zid N (x.1.1, x.2.1) with | some y1 => (match y1 with | true => (match (((x.1.2.1 == x.2.2.1) && ((x.1.2.2.1 == x.2.2.2.1) && ((x.1.2.2.2.1 == x.2.2.2.2.1) && true))) && ((x.1.2.2.2.2.1 == x.2.2.2.2.2.1) && ((x.1.2.2.2.2.2.1 == x.2.2.2.2.2.2.1) && ((x.1.2.2.2.2.2.2.1 == x.2.2.2.2.2.2.2.1) && ((((x.1.2.2.2.2.2.2.2.1 == x.2.2.2.2.2.2.2.2.1) && ((x.1.2.2.2.2.2.2.2.2.1 == x.2.2.2.2.2.2.2.2.2.1) && ((x.1.2.2.2.2.2.2.2.2.2.1 == x.2.2.2.2.2.2.2.2.2.2.1) && true))) && (((x.1.2.2.2.2.2.2.2.2.2.2.1 == x.2.2.2.2.2.2.2.2.2.2.2.1) && ((x.1.2.2.2.2.2.2.2.2.2.2.2.1 == x.2.2.2.2.2.2.2.2.2.2.2.2.1) && ((x.1.2.2.2.2.2.2.2.2.2.2.2.2.1 == x.2.2.2.2.2.2.2.2.2.2.2.2.2.1) && true))) && true)) && true))))) with | true => (match ((x.1.2.2.2.2.2.2.2.2.2.2.2.2.2.1 == x.2.2.2.2.2.2.2.2.2.2.2.2.2.2.1) && ((x.1.2.2.2.2.2.2.2.2.2.2.2.2.2.2.1 == x.2.2.2.2.2.2.2.2.2.2.2.2.2.2.2.1) && true)) with | true => (k (x.1.2.2.2.2.2.2.2.2.2.2.2.2.2.2.2.1 == x.2.2.2.2.2.2.2.2.2.2.2.2.2.2.2.2.1)) | false => (k false)) | false => (k false)) | false => (k false)) | none => none)
abbrev zzs (N : Nat) (x : RT3 × RT3) : Option (Bool) := (zk5 N).d x
theorem zva (N : Nat) : Zd (zk5 N).t := by
 intro x α β k k' r r' h h1
 revert h
 dsimp only [zk5]
 (repeat' (first | (with_reducible refine ze ?_ ?_) | split)) <;> intro h <;> first | exact h1 _ h | cases h
theorem zvn (N : Nat) : Zh (zn qP) (zEl N) zwx (lam N []) Tryd.f49 (zk5 N) := fun x => by kernel_rfl
def zEm (N : Nat) : Ent qP := zy (zd qP) (zi _) zl 49 Tryd.f49 Tryd.func49 rfl zwx (lam N []) (zm (l := []) an (by kernel_rfl)) (zk5 N) (fun _ => ⟨rfl, rfl⟩) (zvn N) (fun _ _ _ h => zu h (fun _ _ => rfl) (fun _ _ => rfl)) (zva N)
def zxv : Nat -> Keep × Keep := anL []
def zDD (N : Nat) : GamK := gam (P := qP) [zEm N]
def zj5 (N : Nat) : FSpec where
 X := RT0 × RT0
 Y := Bool
 ash := [[none, none, none, none, none, none, none, none, none, some 9, none, none, none, none, none, none, none, none, none, none, none, none, none, none, none], [none, none, none, none, none, none, none, none, none, some 9, none, none, none, none, none, none, none, none, none, none, none, none, none, none, none]]
 S := ⟨[[none]], [], [], [], []⟩
 pat := fun a b => rdA [.agg RK0, .agg RK0] [] a b fun ⟨a0, a1, _⟩ _ => (a0, a1)
 args := fun x => [(AV.agg (zB x.1)), (AV.agg (zB x.2))]
 ret := fun y => ⟨(AV.v (.bool y)), [], none, [], [], [], none⟩
 t := fun x α k => (match (((x.1.1 == x.2.1) && ((x.1.2.1 == x.2.2.1) && ((x.1.2.2.1 == x.2.2.2.1) && ((x.1.2.2.2.1 == x.2.2.2.2.1) && true)))) && ((x.1.2.2.2.2.1 == x.2.2.2.2.2.1) && ((x.1.2.2.2.2.2.1 == x.2.2.2.2.2.2.1) && ((x.1.2.2.2.2.2.2.1 == x.2.2.2.2.2.2.2.1) && ((x.1.2.2.2.2.2.2.2.1 == x.2.2.2.2.2.2.2.2.1) && ((x.1.2.2.2.2.2.2.2.2.1 == x.2.2.2.2.2.2.2.2.2.1) && true)))))) with | true => (match zzs N ((zI x.1), (zI x.2)) with | some y1 => (k y1) | none => none) | false => (k false))
abbrev zdU (N : Nat) (x : RT0 × RT0) : Option (Bool) := (zj5 N).d x
theorem zur (N : Nat) : Zd (zj5 N).t := by
 intro x α β k k' r r' h h1
 revert h
 dsimp only [zj5]
 (repeat' (first | (with_reducible refine ze ?_ ?_) | split)) <;> intro h <;> first | exact h1 _ h | cases h
theorem zqI (N : Nat) : Zh (zn qP) (zDD N) zxv (lam N []) Tryd.f40 (zj5 N) := fun x => by kernel_rfl
def zBT (N : Nat) : Ent qP := zy (zd qP) (zi _) zl 40 Tryd.f40 Tryd.func40 rfl zxv (lam N []) (zm (l := []) an (by kernel_rfl)) (zj5 N) (fun _ => ⟨rfl, rfl⟩) (zqI N) (fun _ _ _ h => zu h (fun _ _ => rfl) (fun _ _ => rfl)) (zur N)
def zbY : Nat -> Keep × Keep := anL [(4, qK [0, 3] [] [], qK [0, 2] [] [])]
def zAd (N : Nat) : GamK := gam (P := qP) []
def zdp (N : Nat) : LSpec where
 X := ByteArray × Int
 Y := (ByteArray × Bool) ⊕ (ByteArray)
 p := fun s => rdS 28 0 [(0, .str), (3, .int .i64)] [] s fun ⟨a0, a1, _⟩ _ => (a0, a1)
 st := fun u4 => mkS 28 [(0, (AV.v (.string u4.1))), (3, (qI u4.2))] [] (zbY 4).1.toks 0
 out := fun y => match y with
  | .inl y => (.ret, mkS 28 [(0, (AV.v (.string y.1))), (2, (AV.v (.bool y.2)))] [] (zbY 4).2.toks 0)
  | .inr y => (.exit 0, mkS 28 [(0, (AV.v (.string y)))] [] (zbY 4).2.toks 0)
 b := fun u4 α kn ke => (match (decide (u4.2 < (u4.1.size : Int))) with | true => (if 0 <= u4.2 then (match u4.1[u4.2.toNat]? with | some c1 => (match (decide ((c1.toNat : Int) < 97)) with | true => (ke (.inl (u4.1, false))) | false => (if 0 <= u4.2 then (match u4.1[u4.2.toNat]? with | some c2 => (match (decide ((c2.toNat : Int) > 122)) with | true => (ke (.inl (u4.1, false))) | false => (kn (u4.1, (i64 (u4.2 + 1))))) | none => none) else none)) | none => none) else none) | false => (ke (.inr u4.1)))
abbrev zBX (N : Nat) (x : ByteArray × Int) : Option ((ByteArray × Bool) ⊕ (ByteArray)) := (zdp N).L N x
def zpz (N : Nat) : FSpec where
 X := ByteArray
 Y := Bool
 ash := [[none]]
 S := ⟨[[none]], [], [], [], []⟩
 pat := fun a b => rdA [.str] [] a b fun ⟨a0, _⟩ _ => a0
 args := fun x => [(AV.v (.string x))]
 ret := fun y => ⟨(AV.v (.bool y)), [], none, [], [], [], none⟩
 t := fun x α k => (match zBX N (x, 0) with | some y3 => (match y3 with | .inl z4 => (k z4.2) | .inr z5 => (match (decide ((z5.size : Int) >= 1)) with | true => (k (decide ((z5.size : Int) <= 16))) | false => (k false))) | none => none)
abbrev zqT (N : Nat) (x : ByteArray) : Option (Bool) := (zpz N).d x
def zgA (N : Nat) : List (Nat × LSpec) := [(4, zdp N)]
def zt9 : Code := Tryd.f76.body.getD .skip
theorem ztr (N : Nat) : Par (zdp N).b := by
 intro x α β kn ke kn' ke' r r' h h1 h2
 revert h
 dsimp only [zdp]
 (repeat' (first | (with_reducible refine ze ?_ ?_) | split)) <;> intro h <;> first | exact h1 _ h | exact h2 _ h | cases h
theorem zoZ (N : Nat) : ji (zn qP) (zAd N) zbY N (zgA N) 4 zt9 (zdp N) := fun x α kn ke => by kernel_rfl
theorem zl5 (N : Nat) : ZK qP zbY N (zgA N) 4 (zc 4 zt9) :=
 zD (zd qP) (zi _) zl zbY N (zgA N) 4 zt9 (l := []) (by kernel_rfl) (by kernel_rfl) an (zdp N) rfl (fun s x hc h => by dsimp only [zdp] at h; exact zJ hc h (fun _ _ => rfl) rfl rfl rfl) (fun _ => rfl) (zoZ N) (ztr N)
theorem zqZ (N : Nat) : Zd (zpz N).t := by
 intro x α β k k' r r' h h1
 revert h
 dsimp only [zpz]
 (repeat' (first | (with_reducible refine ze ?_ ?_) | split)) <;> intro h <;> first | exact h1 _ h | cases h
theorem zut (N : Nat) : Zh (zn qP) (zAd N) zbY (lam N (zgA N)) Tryd.f76 (zpz N) := fun x => by kernel_rfl
def zBR (N : Nat) : Ent qP := zy (zd qP) (zi _) zl 76 Tryd.f76 Tryd.func76 rfl zbY (lam N (zgA N)) (zm (l := [(4, zc 4 zt9)]) (al (zl5 N) an) (by kernel_rfl)) (zpz N) (fun _ => ⟨rfl, rfl⟩) (zut N) (fun _ _ _ h => zu h (fun _ _ => rfl) (fun _ _ => rfl)) (zqZ N)
def j9 : Nat -> Keep × Keep := anL [(4, qK [1, 2, 3, 7] [] [3], qK [3, 6] [] [3]), (16, ⟨[1, 2, 3, 7, 8], [], [3, 8], [], [], [], [], [], true, none, []⟩, qK [1, 2, 3, 6, 7, 8] [] [3, 8])]
def zzC (N : Nat) : GamK := gam (P := qP) [zyz N, zBR N, zCB N, zB1 N, zBT N]
def Jn (N : Nat) : LSpec where
 X := Int × Int × Int × qL × RT7
 Y := (Int × Int × Bool × Int × qL × RT7) ⊕ (Int × Int × Int × qL × RT7)
 p := fun s => rdS 147 0 [(1, .int .i64), (2, .int .i64), (3, .ptr 3 0), (7, .int .i64), (8, .ptr 8 0)] [(3, .cells [.lst 29]), (8, .row RK7)] s fun ⟨a0, a1, _, a2, _, _⟩ ⟨⟨a3, _⟩, a4, _⟩ => (a0, a1, a2, a3, a4)
 st := fun u16 => mkS 147 [(1, (qI u16.1)), (2, (qI u16.2.1)), (3, (AV.ptr 3 0)), (7, (qI u16.2.2.1)), (8, (AV.ptr 8 0))] [(3, [(AV.list 29 u16.2.2.2.1 none)]), (8, (zN u16.2.2.2.2))] (j9 16).1.toks 0
 out := fun y => match y with
  | .inl y => (.ret, mkS 147 [(1, (qI y.1)), (2, (qI y.2.1)), (3, (AV.ptr 3 0)), (6, (AV.v (.bool y.2.2.1))), (7, (qI y.2.2.2.1)), (8, (AV.ptr 8 0))] [(3, [(AV.list 29 y.2.2.2.2.1 none)]), (8, (zN y.2.2.2.2.2))] (j9 16).2.toks 0)
  | .inr y => (.normal, mkS 147 [(1, (qI y.1)), (2, (qI y.2.1)), (3, (AV.ptr 3 0)), (7, (qI y.2.2.1)), (8, (AV.ptr 8 0))] [(3, [(AV.list 29 y.2.2.2.1 none)]), (8, (zN y.2.2.2.2))] (j9 16).2.toks 0)
 b := fun u16 α kn ke => (match (u16.2.2.2.2.1 == 1) with | true => (match (!(u16.2.2.2.2.2.2.1.toList == (⟨#[]⟩ : ByteArray).toList)) with | true => (ke (.inl (u16.1, u16.2.1, false, u16.2.2))) | false => (ke (.inr u16))) | false => (match (u16.2.2.2.2.1 == 2) with | true => (match (!(u16.2.2.2.2.2.2.1.toList == (⟨#[]⟩ : ByteArray).toList)) with | true => (ke (.inl (u16.1, u16.2.1, false, u16.2.2))) | false => (match (!(u16.2.2.2.2.1 == 2)) with | true => (match zqT N u16.2.2.2.2.2.2.1 with | some y8 => (match (!y8) with | true => (ke (.inl (u16.1, u16.2.1, false, u16.2.2))) | false => (ke (.inr u16))) | none => none) | false => (ke (.inr u16)))) | false => (match (!(u16.2.2.2.2.1 == 2)) with | true => (match zqT N u16.2.2.2.2.2.2.1 with | some y9 => (match (!y9) with | true => (ke (.inl (u16.1, u16.2.1, false, u16.2.2))) | false => (ke (.inr u16))) | none => none) | false => (ke (.inr u16)))))
abbrev zoE (N : Nat) (x : Int × Int × Int × qL × RT7) : Option ((Int × Int × Bool × Int × qL × RT7) ⊕ (Int × Int × Int × qL × RT7)) := (Jn N).L N x
def jF (N : Nat) : LSpec where
 X := Int × Int × Int × qL
 Y := (Bool × qL) ⊕ (qL)
 p := fun s => rdS 147 0 [(1, .int .i64), (2, .int .i64), (3, .ptr 3 0), (7, .int .i64)] [(3, .cells [.lst 29])] s fun ⟨a0, a1, _, a2, _⟩ ⟨⟨a3, _⟩, _⟩ => (a0, a1, a2, a3)
 st := fun u4 => mkS 147 [(1, (qI u4.1)), (2, (qI u4.2.1)), (3, (AV.ptr 3 0)), (7, (qI u4.2.2.1))] [(3, [(AV.list 29 u4.2.2.2 none)])] (j9 4).1.toks 0
 out := fun y => match y with
  | .inl y => (.ret, mkS 147 [(3, (AV.ptr 3 0)), (6, (AV.v (.bool y.1)))] [(3, [(AV.list 29 y.2 none)])] (j9 4).2.toks 0)
  | .inr y => (.exit 0, mkS 147 [(3, (AV.ptr 3 0))] [(3, [(AV.list 29 y none)])] (j9 4).2.toks 0)
 b := fun u4 α kn ke => (match (decide (u4.2.2.1 < (u4.2.2.2.length : Int))) with | true => (if 0 <= u4.2.2.1 then (match u4.2.2.2[u4.2.2.1.toNat]? with | some c33 => (match zlq c33 with | some e34 => (match (decide (e34.1 < 1)) with | true => (ke (.inl (false, u4.2.2.2))) | false => (match (decide (e34.1 > 6)) with | true => (ke (.inl (false, u4.2.2.2))) | false => (match (decide (e34.2.1 < 0)) with | true => (ke (.inl (false, u4.2.2.2))) | false => (match (decide (e34.2.1 > 18014398509481984)) with | true => (ke (.inl (false, u4.2.2.2))) | false => (match zc3 N ([(zB (zx e34))]) with | some y35 => (match (!y35) with | true => (ke (.inl (false, u4.2.2.2))) | false => (match zoE N (u4.1, u4.2.1, u4.2.2.1, u4.2.2.2, e34) with | some y36 => (match y36 with | .inl z37 => (ke (.inl (z37.2.2.1, z37.2.2.2.2.1))) | .inr z38 => (match (z38.2.2.2.2.1 != 5) with | true => (match (z38.2.2.2.2.2.2.2.1 != 0) with | true => (ke (.inl (false, z38.2.2.2.1))) | false => (match (z38.2.2.2.2.1 == 5) with | true => (match (decide (z38.2.2.2.2.2.2.2.1 < 0)) with | true => (ke (.inl (false, z38.2.2.2.1))) | false => (match (decide (z38.2.2.2.2.2.2.2.1 >= z38.2.1)) with | true => (ke (.inl (false, z38.2.2.2.1))) | false => (match (z38.2.2.2.2.2.2.2.1 == z38.1) with | true => (ke (.inl (false, z38.2.2.2.1))) | false => (match (z38.2.2.1 == 0) with | true => (match (z38.2.2.2.2.1 != 1) with | true => (ke (.inl (false, z38.2.2.2.1))) | false => (kn (z38.1, z38.2.1, (i64 (z38.2.2.1 + 1)), z38.2.2.2.1))) | false => (if 0 <= (i64 (z38.2.2.1 - 1)) then (match z38.2.2.2.1[(i64 (z38.2.2.1 - 1)).toNat]? with | some c39 => (match zlq c39 with | some e40 => (match (decide (z38.2.2.2.2.2.1 < e40.2.1)) with | true => (ke (.inl (false, z38.2.2.2.1))) | false => (match zko N (z38.2.2.2.2, e40) with | some y41 => (match (!y41) with | true => (ke (.inl (false, z38.2.2.2.1))) | false => (match zhI N z38.2.2.2.2.1 with | some y42 => (match y42 with | true => (match zdU N ((zx e40), (zx z38.2.2.2.2)) with | some y43 => (match (!y43) with | true => (ke (.inl (false, z38.2.2.2.1))) | false => (kn (z38.1, z38.2.1, (i64 (z38.2.2.1 + 1)), z38.2.2.2.1))) | none => none) | false => (kn (z38.1, z38.2.1, (i64 (z38.2.2.1 + 1)), z38.2.2.2.1))) | none => none)) | none => none)) | none => none) | none => none) else none))))) | false => (match (z38.2.2.1 == 0) with | true => (match (z38.2.2.2.2.1 != 1) with | true => (ke (.inl (false, z38.2.2.2.1))) | false => (kn (z38.1, z38.2.1, (i64 (z38.2.2.1 + 1)), z38.2.2.2.1))) | false => (if 0 <= (i64 (z38.2.2.1 - 1)) then (match z38.2.2.2.1[(i64 (z38.2.2.1 - 1)).toNat]? with | some c44 => (match zlq c44 with | some e45 => (match (decide (z38.2.2.2.2.2.1 < e45.2.1)) with | true => (ke (.inl (false, z38.2.2.2.1))) | false => (match zko N (z38.2.2.2.2, e45) with | some y46 => (match (!y46) with | true => (ke (.inl (false, z38.2.2.2.1))) | false => (match zhI N z38.2.2.2.2.1 with | some y47 => (match y47 with | true => (match zdU N ((zx e45), (zx z38.2.2.2.2)) with | some y48 => (match (!y48) with | true => (ke (.inl (false, z38.2.2.2.1))) | false => (kn (z38.1, z38.2.1, (i64 (z38.2.2.1 + 1)), z38.2.2.2.1))) | none => none) | false => (kn (z38.1, z38.2.1, (i64 (z38.2.2.1 + 1)), z38.2.2.2.1))) | none => none)) | none => none)) | none => none) | none => none) else none)))) | false => (match (z38.2.2.2.2.1 == 5) with | true => (match (decide (z38.2.2.2.2.2.2.2.1 < 0)) with | true => (ke (.inl (false, z38.2.2.2.1))) | false => (match (decide (z38.2.2.2.2.2.2.2.1 >= z38.2.1)) with | true => (ke (.inl (false, z38.2.2.2.1))) | false => (match (z38.2.2.2.2.2.2.2.1 == z38.1) with | true => (ke (.inl (false, z38.2.2.2.1))) | false => (match (z38.2.2.1 == 0) with | true => (match (z38.2.2.2.2.1 != 1) with | true => (ke (.inl (false, z38.2.2.2.1))) | false => (kn (z38.1, z38.2.1, (i64 (z38.2.2.1 + 1)), z38.2.2.2.1))) | false => (if 0 <= (i64 (z38.2.2.1 - 1)) then (match z38.2.2.2.1[(i64 (z38.2.2.1 - 1)).toNat]? with | some c49 => (match zlq c49 with | some e50 => (match (decide (z38.2.2.2.2.2.1 < e50.2.1)) with | true => (ke (.inl (false, z38.2.2.2.1))) | false => (match zko N (z38.2.2.2.2, e50) with | some y51 => (match (!y51) with | true => (ke (.inl (false, z38.2.2.2.1))) | false => (match zhI N z38.2.2.2.2.1 with | some y52 => (match y52 with | true => (match zdU N ((zx e50), (zx z38.2.2.2.2)) with | some y53 => (match (!y53) with | true => (ke (.inl (false, z38.2.2.2.1))) | false => (kn (z38.1, z38.2.1, (i64 (z38.2.2.1 + 1)), z38.2.2.2.1))) | none => none) | false => (kn (z38.1, z38.2.1, (i64 (z38.2.2.1 + 1)), z38.2.2.2.1))) | none => none)) | none => none)) | none => none) | none => none) else none))))) | false => (match (z38.2.2.1 == 0) with | true => (match (z38.2.2.2.2.1 != 1) with | true => (ke (.inl (false, z38.2.2.2.1))) | false => (kn (z38.1, z38.2.1, (i64 (z38.2.2.1 + 1)), z38.2.2.2.1))) | false => (if 0 <= (i64 (z38.2.2.1 - 1)) then (match z38.2.2.2.1[(i64 (z38.2.2.1 - 1)).toNat]? with | some c54 => (match zlq c54 with | some e55 => (match (decide (z38.2.2.2.2.2.1 < e55.2.1)) with | true => (ke (.inl (false, z38.2.2.2.1))) | false => (match zko N (z38.2.2.2.2, e55) with | some y56 => (match (!y56) with | true => (ke (.inl (false, z38.2.2.2.1))) | false => (match zhI N z38.2.2.2.2.1 with | some y57 => (match y57 with | true => (match zdU N ((zx e55), (zx z38.2.2.2.2)) with | some y58 => (match (!y58) with | true => (ke (.inl (false, z38.2.2.2.1))) | false => (kn (z38.1, z38.2.1, (i64 (z38.2.2.1 + 1)), z38.2.2.2.1))) | none => none) | false => (kn (z38.1, z38.2.1, (i64 (z38.2.2.1 + 1)), z38.2.2.2.1))) | none => none)) | none => none)) | none => none) | none => none) else none))))) | none => none)) | none => none))))) | none => none) | none => none) else none) | false => (ke (.inr u4.2.2.2)))
abbrev zw4 (N : Nat) (x : Int × Int × Int × qL) : Option ((Bool × qL) ⊕ (qL)) := (jF N).L N x
def zec (N : Nat) : FSpec where
 X := qL × Int × Int
 Y := Bool
 ash := [[some 29], [none], [none]]
 S := ⟨[[none]], [], [], [], []⟩
 pat := fun a b => zk a fun v1 c2 => jg v1 fun c3 => zk c3 fun c4 c5 => Z3 29 c4 fun a0 => zQ c5 <| zk c2 fun v6 c7 => jQ .i64 v6 fun a1 => zk c7 fun v8 c9 => jQ .i64 v8 fun a2 => zQ c9 <| zQ b <| some (a0, a1, a2)
 args := fun x => [(AV.agg [(AV.list 29 x.1 none)]), (AV.v (.int .i64 x.2.1)), (AV.v (.int .i64 x.2.2))]
 ret := fun y => ⟨(AV.v (.bool y)), [], none, [], [], [], none⟩
 t := fun x α k => (match zw4 N (x.2.1, x.2.2, 0, x.1) with | some y59 => (match y59 with | .inl z60 => (k z60.1) | .inr z61 => (match (decide ((z61.length : Int) >= 1)) with | true => (k (decide ((z61.length : Int) <= 100))) | false => (k false))) | none => none)
abbrev zzi (N : Nat) (x : qL × Int × Int) : Option (Bool) := (zec N).d x
def zbF (N : Nat) : List (Nat × LSpec) := [(4, jF N), (16, Jn N)]
def zfQ : Code := Tryd.f78.body.getD .skip
theorem znt (N : Nat) : Par (Jn N).b := by
 intro x α β kn ke kn' ke' r r' h h1 h2
 revert h
 dsimp only [Jn]
 (repeat' (first | (with_reducible refine ze ?_ ?_) | split)) <;> intro h <;> first | exact h1 _ h | exact h2 _ h | cases h
theorem zjX (N : Nat) : zlY (zn qP) (zzC N) j9 N (zbF N) 16 zfQ (Jn N) := fun x α kn ke => by kernel_rfl
theorem zel (N : Nat) : ZK qP j9 N (zbF N) 16 (zc 16 zfQ) :=
 jW (zd qP) (zi _) zl j9 N (zbF N) 16 zfQ (l := []) (by kernel_rfl) an (Jn N) rfl (fun s x hc h => by dsimp only [Jn] at h; exact zJ hc h (fun _ _ => rfl) rfl rfl rfl) (zjX N) (znt N)
theorem ztY (N : Nat) : Par (jF N).b := by
 intro x α β kn ke kn' ke' r r' h h1 h2
 revert h
 dsimp only [jF]
 (repeat' (first | (with_reducible refine ze ?_ ?_) | split)) <;> intro h <;> first | exact h1 _ h | exact h2 _ h | cases h
theorem zmV (N : Nat) : ji (zn qP) (zzC N) j9 N (zbF N) 4 zfQ (jF N) := fun x α kn ke => by kernel_rfl
theorem zoL (N : Nat) : ZK qP j9 N (zbF N) 4 (zc 4 zfQ) :=
 zD (zd qP) (zi _) zl j9 N (zbF N) 4 zfQ (l := [(16, zc 16 zfQ)]) (by kernel_rfl) (by kernel_rfl) (al (zel N) an) (jF N) rfl (fun s x hc h => by dsimp only [jF] at h; exact zJ hc h (fun _ _ => rfl) rfl rfl rfl) (fun _ => rfl) (zmV N) (ztY N)
theorem zuZ (N : Nat) : Zd (zec N).t := by
 intro x α β k k' r r' h h1
 revert h
 dsimp only [zec]
 (repeat' (first | (with_reducible refine ze ?_ ?_) | split)) <;> intro h <;> first | exact h1 _ h | cases h
theorem zuT (N : Nat) : Zh (zn qP) (zzC N) j9 (lam N (zbF N)) Tryd.f78 (zec N) := fun x => by kernel_rfl
theorem zy4 (N : Nat) (a : List AV) (b : qL) (x : (zec N).X) (h : (zec N).pat a b = some x) : a = (zec N).args x /\ b = (zec N).bs x := by
 obtain ⟨v1, c2, rfl, g0⟩ := zb (show zk _ _ = some x from h)
 obtain ⟨c3, rfl, g1⟩ := zR g0; clear g0
 obtain ⟨c4, c5, rfl, g2⟩ := zb g1; clear g1
 obtain ⟨a0, rfl, g3⟩ := zr g2; clear g2
 obtain ⟨rfl, g4⟩ := zg g3; clear g3
 obtain ⟨v6, c7, rfl, g5⟩ := zb g4; clear g4
 obtain ⟨a1, rfl, g6⟩ := zC g5; clear g5
 obtain ⟨v8, c9, rfl, g7⟩ := zb g6; clear g6
 obtain ⟨a2, rfl, g8⟩ := zC g7; clear g7
 obtain ⟨rfl, g9⟩ := zg g8; clear g8
 obtain ⟨rfl, g10⟩ := zg g9; clear g9
 clear h
 cases g10
 exact ⟨rfl, rfl⟩
def zEA (N : Nat) : Ent qP := zy (zd qP) (zi _) zl 78 Tryd.f78 Tryd.func78 rfl j9 (lam N (zbF N)) (zm (l := [(4, zc 4 zfQ), (16, zc 16 zfQ)]) (al (zoL N) (al (zel N) an)) (by kernel_rfl)) (zec N) (fun _ => ⟨rfl, rfl⟩) (zuT N) (zy4 N) (zuZ N)
def zbM : Nat -> Keep × Keep := anL [(4, qK [1, 3] [] [1], qK [1, 2] [] [1])]
def zBi (N : Nat) : GamK := gam (P := qP) [zEA N]
def jJ (N : Nat) : LSpec where
 X := Int × qL
 Y := (Bool × qL) ⊕ (qL)
 p := fun s => rdS 26 0 [(1, .ptr 1 0), (3, .int .i64)] [(1, .cells [.lst 1])] s fun ⟨_, a0, _⟩ ⟨⟨a1, _⟩, _⟩ => (a0, a1)
 st := fun u4 => mkS 26 [(1, (AV.ptr 1 0)), (3, (qI u4.1))] [(1, [(AV.list 1 u4.2 none)])] (zbM 4).1.toks 0
 out := fun y => match y with
  | .inl y => (.ret, mkS 26 [(1, (AV.ptr 1 0)), (2, (AV.v (.bool y.1)))] [(1, [(AV.list 1 y.2 none)])] (zbM 4).2.toks 0)
  | .inr y => (.exit 0, mkS 26 [(1, (AV.ptr 1 0))] [(1, [(AV.list 1 y none)])] (zbM 4).2.toks 0)
 b := fun u4 α kn ke => (match (decide (u4.1 < (u4.2.length : Int))) with | true => (if 0 <= u4.1 then (match u4.2[u4.1.toNat]? with | some c4 => (match zfU c4 with | some e5 => (match zzi N (e5.1, u4.1, (u4.2.length : Int)) with | some y6 => (match (!y6) with | true => (ke (.inl (false, u4.2))) | false => (kn ((i64 (u4.1 + 1)), u4.2))) | none => none) | none => none) | none => none) else none) | false => (ke (.inr u4.2)))
abbrev zw9 (N : Nat) (x : Int × qL) : Option ((Bool × qL) ⊕ (qL)) := (jJ N).L N x
def zd9 (N : Nat) : FSpec where
 X := qL
 Y := Bool
 ash := [[some 1]]
 S := ⟨[[none]], [], [], [], []⟩
 pat := fun a b => zk a fun v1 c2 => jg v1 fun c3 => zk c3 fun c4 c5 => Z3 1 c4 fun a0 => zQ c5 <| zQ c2 <| zQ b <| some a0
 args := fun x => [(AV.agg [(AV.list 1 x none)])]
 ret := fun y => ⟨(AV.v (.bool y)), [], none, [], [], [], none⟩
 t := fun x α k => (match zw9 N (0, x) with | some y7 => (match y7 with | .inl z8 => (k z8.1) | .inr z9 => (k (decide ((z9.length : Int) <= 500)))) | none => none)
abbrev zrs (N : Nat) (x : qL) : Option (Bool) := (zd9 N).d x
def zg4 (N : Nat) : List (Nat × LSpec) := [(4, jJ N)]
def zqC : Code := Tryd.f55.body.getD .skip
theorem zuU (N : Nat) : Par (jJ N).b := by
 intro x α β kn ke kn' ke' r r' h h1 h2
 revert h
 dsimp only [jJ]
 (repeat' (first | (with_reducible refine ze ?_ ?_) | split)) <;> intro h <;> first | exact h1 _ h | exact h2 _ h | cases h
theorem zoK (N : Nat) : ji (zn qP) (zBi N) zbM N (zg4 N) 4 zqC (jJ N) := fun x α kn ke => by kernel_rfl
theorem zph (N : Nat) : ZK qP zbM N (zg4 N) 4 (zc 4 zqC) :=
 zD (zd qP) (zi _) zl zbM N (zg4 N) 4 zqC (l := []) (by kernel_rfl) (by kernel_rfl) an (jJ N) rfl (fun s x hc h => by dsimp only [jJ] at h; exact zJ hc h (fun _ _ => rfl) rfl rfl rfl) (fun _ => rfl) (zoK N) (zuU N)
theorem zqG (N : Nat) : Zd (zd9 N).t := by
 intro x α β k k' r r' h h1
 revert h
 dsimp only [zd9]
 (repeat' (first | (with_reducible refine ze ?_ ?_) | split)) <;> intro h <;> first | exact h1 _ h | cases h
theorem zrc (N : Nat) : Zh (zn qP) (zBi N) zbM (lam N (zg4 N)) Tryd.f55 (zd9 N) := fun x => by kernel_rfl
theorem zym (N : Nat) (a : List AV) (b : qL) (x : (zd9 N).X) (h : (zd9 N).pat a b = some x) : a = (zd9 N).args x /\ b = (zd9 N).bs x := by
 obtain ⟨v1, c2, rfl, g0⟩ := zb (show zk _ _ = some x from h)
 obtain ⟨c3, rfl, g1⟩ := zR g0; clear g0
 obtain ⟨c4, c5, rfl, g2⟩ := zb g1; clear g1
 obtain ⟨a0, rfl, g3⟩ := zr g2; clear g2
 obtain ⟨rfl, g4⟩ := zg g3; clear g3
 obtain ⟨rfl, g5⟩ := zg g4; clear g4
 obtain ⟨rfl, g6⟩ := zg g5; clear g5
 clear h
 cases g6
 exact ⟨rfl, rfl⟩
def zA5 (N : Nat) : Ent qP := zy (zd qP) (zi _) zl 55 Tryd.f55 Tryd.func55 rfl zbM (lam N (zg4 N)) (zm (l := [(4, zc 4 zqC)]) (al (zph N) an) (by kernel_rfl)) (zd9 N) (fun _ => ⟨rfl, rfl⟩) (zrc N) (zym N) (zqG N)
def zbS : Nat -> Keep × Keep := anL [(4, ⟨[3, 5], [], [3], [(0, 25)], [], [], [], [], false, none, []⟩, qK [4] [] [])]
def zAc (N : Nat) : GamK := gam (P := qP) []
def Z6 (N : Nat) : LSpec where
 X := qL × Int × RT1
 Y := (Int) ⊕ (Unit)
 p := fun s => rdS 20 0 [(0, .lst 25), (3, .ptr 3 0), (5, .int .i64)] [(3, .row RK1)] s fun ⟨a0, _, a1, _⟩ ⟨a2, _⟩ => (a0, a1, a2)
 st := fun u4 => mkS 20 [(0, (AV.list 25 u4.1 none)), (3, (AV.ptr 3 0)), (5, (qI u4.2.1))] [(3, (zq u4.2.2))] (zbS 4).1.toks 0
 out := fun y => match y with
  | .inl y => (.ret, mkS 20 [(4, (qI y))] [] (zbS 4).2.toks 0)
  | .inr y => (.exit 0, mkS 20 [] [] (zbS 4).2.toks 0)
 b := fun u4 α kn ke => (match (decide (u4.2.1 < (u4.1.length : Int))) with | true => (if 0 <= u4.2.1 then (match u4.1[u4.2.1.toNat]? with | some c1 => (match Jv (c1.drop 0) with | some e2 => (match (((e2.1 == u4.2.2.1) && ((e2.2.1 == u4.2.2.2.1) && ((e2.2.2.1 == u4.2.2.2.2.1) && ((e2.2.2.2.1 == u4.2.2.2.2.2.1) && true)))) && ((e2.2.2.2.2.1 == u4.2.2.2.2.2.2.1) && ((e2.2.2.2.2.2.1 == u4.2.2.2.2.2.2.2.1) && ((e2.2.2.2.2.2.2.1 == u4.2.2.2.2.2.2.2.2.1) && ((e2.2.2.2.2.2.2.2.1 == u4.2.2.2.2.2.2.2.2.2.1) && ((e2.2.2.2.2.2.2.2.2.1 == u4.2.2.2.2.2.2.2.2.2.2.1) && true)))))) with | true => (ke (.inl u4.2.1)) | false => (kn (u4.1, (i64 (u4.2.1 + 1)), u4.2.2))) | none => none) | none => none) else none) | false => (ke (.inr ())))
abbrev zwr (N : Nat) (x : qL × Int × RT1) : Option ((Int) ⊕ (Unit)) := (Z6 N).L N x
def zlM (N : Nat) : FSpec where
 X := qL × RT1
 Y := Int
 ash := [[some 25], [none, none, none, none, none, none, none, none, none]]
 S := ⟨[[none]], [], [], [], []⟩
 pat := fun a b => rdA [.lst 25, .agg RK1] [] a b fun ⟨a0, a1, _⟩ _ => (a0, a1)
 args := fun x => [(AV.list 25 x.1 none), (AV.agg (zq x.2))]
 ret := fun y => ⟨(AV.v (.int .i64 y)), [], none, [], [], [], none⟩
 t := fun x α k => (match zwr N (x.1, 0, x.2) with | some y3 => (match y3 with | .inl z4 => (k z4) | .inr z5 => (k (-1))) | none => none)
abbrev zvL (N : Nat) (x : qL × RT1) : Option (Int) := (zlM N).d x
def zgH (N : Nat) : List (Nat × LSpec) := [(4, Z6 N)]
def zt7 : Code := Tryd.f18.body.getD .skip
theorem ztf (N : Nat) : Par (Z6 N).b := by
 intro x α β kn ke kn' ke' r r' h h1 h2
 revert h
 dsimp only [Z6]
 (repeat' (first | (with_reducible refine ze ?_ ?_) | split)) <;> intro h <;> first | exact h1 _ h | exact h2 _ h | cases h
theorem zps (N : Nat) : ji (zn qP) (zAc N) zbS N (zgH N) 4 zt7 (Z6 N) := fun x α kn ke => by kernel_rfl
theorem zpP (N : Nat) : ZK qP zbS N (zgH N) 4 (zc 4 zt7) :=
 zD (zd qP) (zi _) zl zbS N (zgH N) 4 zt7 (l := []) (by kernel_rfl) (by kernel_rfl) an (Z6 N) rfl (fun s x hc h => by dsimp only [Z6] at h; exact zJ hc h (fun _ _ => rfl) rfl rfl rfl) (fun _ => rfl) (zps N) (ztf N)
theorem zsh (N : Nat) : Zd (zlM N).t := by
 intro x α β k k' r r' h h1
 revert h
 dsimp only [zlM]
 (repeat' (first | (with_reducible refine ze ?_ ?_) | split)) <;> intro h <;> first | exact h1 _ h | cases h
theorem ztG (N : Nat) : Zh (zn qP) (zAc N) zbS (lam N (zgH N)) Tryd.f18 (zlM N) := fun x => by kernel_rfl
def zDp (N : Nat) : Ent qP := zy (zd qP) (zi _) zl 18 Tryd.f18 Tryd.func18 rfl zbS (lam N (zgH N)) (zm (l := [(4, zc 4 zt7)]) (al (zpP N) an) (by kernel_rfl)) (zlM N) (fun _ => ⟨rfl, rfl⟩) (ztG N) (fun _ _ _ h => zu h (fun _ _ => rfl) (fun _ _ => rfl)) (zsh N)
def zwM : Nat -> Keep × Keep := anL []
def zCT (N : Nat) : GamK := gam (P := qP) []
def zdZ (N : Nat) : FSpec where
 X := qL
 Y := RT7
 ash := [[some 29]]
 S := ⟨[[none, none, none, none, none, none, none, none, none, none, none, none, none, some 9, none, none, none, none, none, none, none, none, none, none, none, none, none, none, none]], [], [], [], []⟩
 pat := fun a b => zk a fun v1 c2 => jg v1 fun c3 => zk c3 fun c4 c5 => Z3 29 c4 fun a0 => zQ c5 <| zQ c2 <| zQ b <| some a0
 args := fun x => [(AV.agg [(AV.list 29 x none)])]
 ret := fun y => ⟨(AV.agg (zN y)), [], none, [], [], [], none⟩
 t := fun x α k => (if 0 <= (i64 ((x.length : Int) - 1)) then (match x[(i64 ((x.length : Int) - 1)).toNat]? with | some c1 => (match zlq c1 with | some e2 => (k e2) | none => none) | none => none) else none)
abbrev zim (N : Nat) (x : qL) : Option (RT7) := (zdZ N).d x
theorem zsw (N : Nat) : Zd (zdZ N).t := by
 intro x α β k k' r r' h h1
 revert h
 dsimp only [zdZ]
 (repeat' (first | (with_reducible refine ze ?_ ?_) | split)) <;> intro h <;> first | exact h1 _ h | cases h
theorem ztF (N : Nat) : Zh (zn qP) (zCT N) zwM (lam N []) Tryd.f16 (zdZ N) := fun x => by kernel_rfl
theorem zxU (N : Nat) (a : List AV) (b : qL) (x : (zdZ N).X) (h : (zdZ N).pat a b = some x) : a = (zdZ N).args x /\ b = (zdZ N).bs x := by
 obtain ⟨v1, c2, rfl, g0⟩ := zb (show zk _ _ = some x from h)
 obtain ⟨c3, rfl, g1⟩ := zR g0; clear g0
 obtain ⟨c4, c5, rfl, g2⟩ := zb g1; clear g1
 obtain ⟨a0, rfl, g3⟩ := zr g2; clear g2
 obtain ⟨rfl, g4⟩ := zg g3; clear g3
 obtain ⟨rfl, g5⟩ := zg g4; clear g4
 obtain ⟨rfl, g6⟩ := zg g5; clear g5
 clear h
 cases g6
 exact ⟨rfl, rfl⟩
def zvx (N : Nat) : Ent qP := zy (zd qP) (zi _) zl 16 Tryd.f16 Tryd.func16 rfl zwM (lam N []) (zm (l := []) an (by kernel_rfl)) (zdZ N) (fun _ => ⟨rfl, rfl⟩) (ztF N) (zxU N) (zsw N)
@[reducible] def zpD (e : RT7) : RT1 := (e.2.2.2.2.1, e.2.2.2.2.2.1, e.2.2.2.2.2.2.1, e.2.2.2.2.2.2.2.1, e.2.2.2.2.2.2.2.2.1, e.2.2.2.2.2.2.2.2.2.1, e.2.2.2.2.2.2.2.2.2.2.1, e.2.2.2.2.2.2.2.2.2.2.2.1, e.2.2.2.2.2.2.2.2.2.2.2.2.1, ())
def Jh : Nat -> Keep × Keep := anL [(4, ⟨[5], [], [], [(0, 9), (1, 9)], [], [], [], [], false, none, []⟩, qK [4] [] []), (12, ⟨[5, 6], [], [], [(0, 9), (1, 9)], [], [], [], [], false, none, []⟩, ⟨[4, 5], [], [], [(0, 9), (1, 9)], [], [], [], [], false, none, []⟩)]
def zza (N : Nat) : GamK := gam (P := qP) []
def Zz (N : Nat) : LSpec where
 X := qL × qL × Int × Int
 Y := (qL × qL × Bool × Int) ⊕ (qL × qL × Int)
 p := fun s => rdS 28 0 [(0, .lst 9), (1, .lst 9), (5, .int .i64), (6, .int .i64)] [] s fun ⟨a0, a1, a2, a3, _⟩ _ => (a0, a1, a2, a3)
 st := fun u12 => mkS 28 [(0, (AV.list 9 u12.1 none)), (1, (AV.list 9 u12.2.1 none)), (5, (qI u12.2.2.1)), (6, (qI u12.2.2.2))] [] (Jh 12).1.toks 0
 out := fun y => match y with
  | .inl y => (.ret, mkS 28 [(0, (AV.list 9 y.1 none)), (1, (AV.list 9 y.2.1 none)), (4, (AV.v (.bool y.2.2.1))), (5, (qI y.2.2.2))] [] (Jh 12).2.toks 0)
  | .inr y => (.exit 2, mkS 28 [(0, (AV.list 9 y.1 none)), (1, (AV.list 9 y.2.1 none)), (5, (qI y.2.2))] [] (Jh 12).2.toks 0)
 b := fun u12 α kn ke => (match (decide (u12.2.2.2 < (u12.2.1.length : Int))) with | true => (if 0 <= u12.2.2.1 then (match u12.1[u12.2.2.1.toNat]? with | some c1 => (match Jv c1 with | some e2 => (if 0 <= u12.2.2.2 then (match u12.2.1[u12.2.2.2.toNat]? with | some c3 => (match Jv c3 with | some e4 => (match (((e2.1 == e4.1) && ((e2.2.1 == e4.2.1) && ((e2.2.2.1 == e4.2.2.1) && ((e2.2.2.2.1 == e4.2.2.2.1) && true)))) && ((e2.2.2.2.2.1 == e4.2.2.2.2.1) && ((e2.2.2.2.2.2.1 == e4.2.2.2.2.2.1) && ((e2.2.2.2.2.2.2.1 == e4.2.2.2.2.2.2.1) && ((e2.2.2.2.2.2.2.2.1 == e4.2.2.2.2.2.2.2.1) && ((e2.2.2.2.2.2.2.2.2.1 == e4.2.2.2.2.2.2.2.2.1) && true)))))) with | true => (ke (.inl (u12.1, u12.2.1, true, u12.2.2.1))) | false => (kn (u12.1, u12.2.1, u12.2.2.1, (i64 (u12.2.2.2 + 1))))) | none => none) | none => none) else none) | none => none) | none => none) else none) | false => (ke (.inr (u12.1, u12.2.1, u12.2.2.1))))
abbrev ziv (N : Nat) (x : qL × qL × Int × Int) : Option ((qL × qL × Bool × Int) ⊕ (qL × qL × Int)) := (Zz N).L N x
def je (N : Nat) : LSpec where
 X := qL × qL × Int
 Y := (Bool) ⊕ (Unit)
 p := fun s => rdS 28 0 [(0, .lst 9), (1, .lst 9), (5, .int .i64)] [] s fun ⟨a0, a1, a2, _⟩ _ => (a0, a1, a2)
 st := fun u4 => mkS 28 [(0, (AV.list 9 u4.1 none)), (1, (AV.list 9 u4.2.1 none)), (5, (qI u4.2.2))] [] (Jh 4).1.toks 0
 out := fun y => match y with
  | .inl y => (.ret, mkS 28 [(4, (AV.v (.bool y)))] [] (Jh 4).2.toks 0)
  | .inr y => (.exit 0, mkS 28 [] [] (Jh 4).2.toks 0)
 b := fun u4 α kn ke => (match (decide (u4.2.2 < (u4.1.length : Int))) with | true => (match ziv N (u4.1, u4.2.1, u4.2.2, 0) with | some y5 => (match y5 with | .inl z6 => (ke (.inl z6.2.2.1)) | .inr z7 => (kn (z7.1, z7.2.1, (i64 (z7.2.2 + 1))))) | none => none) | false => (ke (.inr ())))
abbrev zw5 (N : Nat) (x : qL × qL × Int) : Option ((Bool) ⊕ (Unit)) := (je N).L N x
def zjZ (N : Nat) : FSpec where
 X := qL × qL
 Y := Bool
 ash := [[some 9], [some 9]]
 S := ⟨[[none]], [], [], [], []⟩
 pat := fun a b => rdA [.lst 9, .lst 9] [] a b fun ⟨a0, a1, _⟩ _ => (a0, a1)
 args := fun x => [(AV.list 9 x.1 none), (AV.list 9 x.2 none)]
 ret := fun y => ⟨(AV.v (.bool y)), [], none, [], [], [], none⟩
 t := fun x α k => (match zw5 N (x.1, x.2, 0) with | some y8 => (match y8 with | .inl z9 => (k z9) | .inr z10 => (k false)) | none => none)
abbrev zvF (N : Nat) (x : qL × qL) : Option (Bool) := (zjZ N).d x
def zbH (N : Nat) : List (Nat × LSpec) := [(4, je N), (12, Zz N)]
def zeY : Code := Tryd.f83.body.getD .skip
theorem zn8 (N : Nat) : Par (Zz N).b := by
 intro x α β kn ke kn' ke' r r' h h1 h2
 revert h
 dsimp only [Zz]
 (repeat' (first | (with_reducible refine ze ?_ ?_) | split)) <;> intro h <;> first | exact h1 _ h | exact h2 _ h | cases h
theorem zky (N : Nat) : ji (zn qP) (zza N) Jh N (zbH N) 12 zeY (Zz N) := fun x α kn ke => by kernel_rfl
theorem zeF (N : Nat) : ZK qP Jh N (zbH N) 12 (zc 12 zeY) :=
 zD (zd qP) (zi _) zl Jh N (zbH N) 12 zeY (l := []) (by kernel_rfl) (by kernel_rfl) an (Zz N) rfl (fun s x hc h => by dsimp only [Zz] at h; exact zJ hc h (fun _ _ => rfl) rfl rfl rfl) (fun _ => rfl) (zky N) (zn8 N)
theorem zvu (N : Nat) : Par (je N).b := by
 intro x α β kn ke kn' ke' r r' h h1 h2
 revert h
 dsimp only [je]
 (repeat' (first | (with_reducible refine ze ?_ ?_) | split)) <;> intro h <;> first | exact h1 _ h | exact h2 _ h | cases h
theorem zoA (N : Nat) : ji (zn qP) (zza N) Jh N (zbH N) 4 zeY (je N) := fun x α kn ke => by kernel_rfl
theorem zoo (N : Nat) : ZK qP Jh N (zbH N) 4 (zc 4 zeY) :=
 zD (zd qP) (zi _) zl Jh N (zbH N) 4 zeY (l := [(12, zc 12 zeY)]) (by kernel_rfl) (by kernel_rfl) (al (zeF N) an) (je N) rfl (fun s x hc h => by dsimp only [je] at h; exact zJ hc h (fun _ _ => rfl) rfl rfl rfl) (fun _ => rfl) (zoA N) (zvu N)
theorem zuY (N : Nat) : Zd (zjZ N).t := by
 intro x α β k k' r r' h h1
 revert h
 dsimp only [zjZ]
 (repeat' (first | (with_reducible refine ze ?_ ?_) | split)) <;> intro h <;> first | exact h1 _ h | cases h
theorem zsT (N : Nat) : Zh (zn qP) (zza N) Jh (lam N (zbH N)) Tryd.f83 (zjZ N) := fun x => by kernel_rfl
def zCX (N : Nat) : Ent qP := zy (zd qP) (zi _) zl 83 Tryd.f83 Tryd.func83 rfl Jh (lam N (zbH N)) (zm (l := [(4, zc 4 zeY), (12, zc 12 zeY)]) (al (zoo N) (al (zeF N) an)) (by kernel_rfl)) (zjZ N) (fun _ => ⟨rfl, rfl⟩) (zsT N) (fun _ _ _ h => zu h (fun _ _ => rfl) (fun _ _ => rfl)) (zuY N)
def zac : Nat -> Keep × Keep := anL [(4, ⟨[0, 1, 5], [], [0], [], [], [], [], [0], false, none, []⟩, ⟨[4], [], [0], [], [], [], [], [0], false, none, []⟩)]
def zv8 (N : Nat) : GamK := gam (P := qP) []
def ZA (N : Nat) : LSpec where
 X := Nat × Int × Int × qA
 Y := (Bool × qA) ⊕ (qA)
 p := fun s => rdS 18 1 [(0, .vs0 0 1), (1, .int .i64), (5, .int .i64)] [(0, .tt)] s fun ⟨a0, a1, a2, _⟩ ⟨a3, _⟩ => (a0, a1, a2, a3)
 st := fun u4 => mkS 18 [(0, (AV.vs 0 0 u4.1 1)), (1, (qI u4.2.1)), (5, (qI u4.2.2.1))] [(0, u4.2.2.2)] (zac 4).1.toks 1
 out := fun y => match y with
  | .inl y => (.ret, mkS 18 [(4, (AV.v (.bool y.1)))] [(0, y.2)] (zac 4).2.toks 1)
  | .inr y => (.exit 0, mkS 18 [] [(0, y)] (zac 4).2.toks 1)
 b := fun u4 α kn ke => (match (decide (u4.2.2.1 < ((u4.1 : Nat) : Int))) with | true => (if 0 <= u4.2.2.1 /\ u4.2.2.1 < (u4.1 : Int) then (match u4.2.2.2[((0 + u4.2.2.1.toNat) * 1)]? with | some x4 => (match x4 with | .v (.int q6 n5) => (if q6 = .i64 then (match (n5 == u4.2.1) with | true => (ke (.inl (true, (u4.2.2.2.map dat0)))) | false => (kn (u4.1, u4.2.1, (i64 (u4.2.2.1 + 1)), (u4.2.2.2.map dat0)))) else none) | _ => none) | none => none) else none) | false => (ke (.inr (u4.2.2.2.map dat0))))
abbrev zn4 (N : Nat) (x : Nat × Int × Int × qA) : Option ((Bool × qA) ⊕ (qA)) := (ZA N).L N x
def zev (N : Nat) : FSpec where
 X := Nat × Int × qA
 Y := Bool × qA
 ash := [[none], [none]]
 bsh := [[]]
 S := ⟨[[none]], [[]], [], [], [0]⟩
 pat := fun a b => rdA [.vs0 0 1, .int .i64] [.tt] a b fun ⟨a0, a1, _⟩ ⟨a2, _⟩ => (a0, a1, a2)
 args := fun x => [(AV.vs 0 0 x.1 1), (AV.v (.int .i64 x.2.1))]
 bs := fun x => [x.2.2]
 ret := fun y => ⟨(AV.v (.bool y.1)), [y.2], none, [], [], [0], none⟩
 t := fun x α k => (match zn4 N (x.1, x.2.1, 0, (x.2.2.map dat0)) with | some y7 => (match y7 with | .inl z8 => (k (z8.1, (z8.2.map dat0))) | .inr z9 => (k (false, (z9.map dat0)))) | none => none)
abbrev zgl (N : Nat) (x : Nat × Int × qA) : Option (Bool × qA) := (zev N).d x
def zde (N : Nat) : List (Nat × LSpec) := [(4, ZA N)]
def zjr : Code := Tryd.f60.body.getD .skip
theorem zpO (N : Nat) : Par (ZA N).b := by
 intro x α β kn ke kn' ke' r r' h h1 h2
 revert h
 dsimp only [ZA]
 (repeat' (first | (with_reducible refine ze ?_ ?_) | split)) <;> intro h <;> first | exact h1 _ h | exact h2 _ h | cases h
theorem zjT (N : Nat) : ji (zn qP) (zv8 N) zac N (zde N) 4 zjr (ZA N) := fun x α kn ke => by kernel_rfl
theorem zkX (N : Nat) : ZK qP zac N (zde N) 4 (zc 4 zjr) :=
 zD (zd qP) (zi _) zl zac N (zde N) 4 zjr (l := []) (by kernel_rfl) (by kernel_rfl) an (ZA N) rfl (fun s x hc h => by dsimp only [ZA] at h; exact zJ hc h (fun _ _ => rfl) rfl rfl rfl) (fun _ => rfl) (zjT N) (zpO N)
theorem zqn (N : Nat) : Zd (zev N).t := by
 intro x α β k k' r r' h h1
 revert h
 dsimp only [zev]
 (repeat' (first | (with_reducible refine ze ?_ ?_) | split)) <;> intro h <;> first | exact h1 _ h | cases h
theorem zmm (N : Nat) : Zh (zn qP) (zv8 N) zac (lam N (zde N)) Tryd.f60 (zev N) := fun x => by kernel_rfl
def zv4 (N : Nat) : Ent qP := zy (zd qP) (zi _) zl 60 Tryd.f60 Tryd.func60 rfl zac (lam N (zde N)) (zm (l := [(4, zc 4 zjr)]) (al (zkX N) an) (by kernel_rfl)) (zev N) (fun _ => ⟨rfl, rfl⟩) (zmm N) (fun _ _ _ h => zu h (fun _ _ => rfl) (fun _ _ => rfl)) (zqn N)
def zch : Nat -> Keep × Keep := anL [(4, qK [1, 2, 5] [] [2], qK [4] [] [])]
def zz6 (N : Nat) : GamK := gam (P := qP) [zvx N]
def jE (N : Nat) : LSpec where
 X := Int × Int × qL
 Y := (Bool) ⊕ (Unit)
 p := fun s => rdS 22 0 [(1, .int .i64), (2, .ptr 2 0), (5, .int .i64)] [(2, .cells [.lst 1])] s fun ⟨a0, _, a1, _⟩ ⟨⟨a2, _⟩, _⟩ => (a0, a1, a2)
 st := fun u4 => mkS 22 [(1, (qI u4.1)), (2, (AV.ptr 2 0)), (5, (qI u4.2.1))] [(2, [(AV.list 1 u4.2.2 none)])] (zch 4).1.toks 0
 out := fun y => match y with
  | .inl y => (.ret, mkS 22 [(4, (AV.v (.bool y)))] [] (zch 4).2.toks 0)
  | .inr y => (.exit 0, mkS 22 [] [] (zch 4).2.toks 0)
 b := fun u4 α kn ke => (match (decide (u4.2.1 < (u4.2.2.length : Int))) with | true => (if 0 <= u4.2.1 then (match u4.2.2[u4.2.1.toNat]? with | some c1 => (match zfU c1 with | some e2 => (match zim N e2.1 with | some y3 => (match (decide (y3.2.1 > u4.1)) with | true => (ke (.inl false)) | false => (kn (u4.1, (i64 (u4.2.1 + 1)), u4.2.2))) | none => none) | none => none) | none => none) else none) | false => (ke (.inr ())))
abbrev zwR (N : Nat) (x : Int × Int × qL) : Option ((Bool) ⊕ (Unit)) := (jE N).L N x
def zdS (N : Nat) : FSpec where
 X := qL × Int
 Y := Bool
 ash := [[some 1], [none]]
 S := ⟨[[none]], [], [], [], []⟩
 pat := fun a b => zk a fun v1 c2 => jg v1 fun c3 => zk c3 fun c4 c5 => Z3 1 c4 fun a0 => zQ c5 <| zk c2 fun v6 c7 => jQ .i64 v6 fun a1 => zQ c7 <| zQ b <| some (a0, a1)
 args := fun x => [(AV.agg [(AV.list 1 x.1 none)]), (AV.v (.int .i64 x.2))]
 ret := fun y => ⟨(AV.v (.bool y)), [], none, [], [], [], none⟩
 t := fun x α k => (match zwR N (x.2, 0, x.1) with | some y4 => (match y4 with | .inl z5 => (k z5) | .inr z6 => (k true)) | none => none)
abbrev zvJ (N : Nat) (x : qL × Int) : Option (Bool) := (zdS N).d x
def zgJ (N : Nat) : List (Nat × LSpec) := [(4, jE N)]
def zrf : Code := Tryd.f57.body.getD .skip
theorem zsN (N : Nat) : Par (jE N).b := by
 intro x α β kn ke kn' ke' r r' h h1 h2
 revert h
 dsimp only [jE]
 (repeat' (first | (with_reducible refine ze ?_ ?_) | split)) <;> intro h <;> first | exact h1 _ h | exact h2 _ h | cases h
theorem znQ (N : Nat) : ji (zn qP) (zz6 N) zch N (zgJ N) 4 zrf (jE N) := fun x α kn ke => by kernel_rfl
theorem znZ (N : Nat) : ZK qP zch N (zgJ N) 4 (zc 4 zrf) :=
 zD (zd qP) (zi _) zl zch N (zgJ N) 4 zrf (l := []) (by kernel_rfl) (by kernel_rfl) an (jE N) rfl (fun s x hc h => by dsimp only [jE] at h; exact zJ hc h (fun _ _ => rfl) rfl rfl rfl) (fun _ => rfl) (znQ N) (zsN N)
theorem zuL (N : Nat) : Zd (zdS N).t := by
 intro x α β k k' r r' h h1
 revert h
 dsimp only [zdS]
 (repeat' (first | (with_reducible refine ze ?_ ?_) | split)) <;> intro h <;> first | exact h1 _ h | cases h
theorem ztb (N : Nat) : Zh (zn qP) (zz6 N) zch (lam N (zgJ N)) Tryd.f57 (zdS N) := fun x => by kernel_rfl
theorem zx4 (N : Nat) (a : List AV) (b : qL) (x : (zdS N).X) (h : (zdS N).pat a b = some x) : a = (zdS N).args x /\ b = (zdS N).bs x := by
 obtain ⟨v1, c2, rfl, g0⟩ := zb (show zk _ _ = some x from h)
 obtain ⟨c3, rfl, g1⟩ := zR g0; clear g0
 obtain ⟨c4, c5, rfl, g2⟩ := zb g1; clear g1
 obtain ⟨a0, rfl, g3⟩ := zr g2; clear g2
 obtain ⟨rfl, g4⟩ := zg g3; clear g3
 obtain ⟨v6, c7, rfl, g5⟩ := zb g4; clear g4
 obtain ⟨a1, rfl, g6⟩ := zC g5; clear g5
 obtain ⟨rfl, g7⟩ := zg g6; clear g6
 obtain ⟨rfl, g8⟩ := zg g7; clear g7
 clear h
 cases g8
 exact ⟨rfl, rfl⟩
def zAD (N : Nat) : Ent qP := zy (zd qP) (zi _) zl 57 Tryd.f57 Tryd.func57 rfl zch (lam N (zgJ N)) (zm (l := [(4, zc 4 zrf)]) (al (znZ N) an) (by kernel_rfl)) (zdS N) (fun _ => ⟨rfl, rfl⟩) (ztb N) (zx4 N) (zuL N)
end
end Go.Proofs.YthdgnfcbehcplaaDoor
end
section
namespace Go.Proofs.YthdgnfcbehcplaaDoor
noncomputable section
open Go.RowKit
set_option maxRecDepth 4000
set_option maxHeartbeats 4000000
def zaB : Nat -> Keep × Keep := anL [(5, ⟨[1, 2, 3, 4], [], [1, 2, 3], [], [((2, 0), 1)], [], [((3, 0), 1)], [], false, some 2012288, []⟩, ⟨[2, 3], [], [2, 3], [], [((2, 0), 1)], [], [((3, 0), 1)], [], false, some 2012288, []⟩)]
def zv1 (N : Nat) : GamK := gam (P := qP) []
def ZV (N : Nat) : LSpec where
 X := Int × qL × qL × Nat × qA × Nat × Nat
 Y := (qL × Nat × qA × Nat × Nat)
 p := fun s => rdF 27 0 2012288 [(1, .ptr 1 0), (2, .ptr 2 0), (3, .ptr 3 0), (4, .int .i64)] [(1, .cells [.lst 1]), (2, .cells [.tok 1 6400524288]), (3, .cells [.vs0 2012288 1]), (2012288, .tt)] s fun ⟨_, _, _, a0, _⟩ ⟨⟨a1, _⟩, ⟨a2, _⟩, ⟨a3, _⟩, a4, _⟩ a5 a6 => (a0, a1, a2, a3, a4, a5, a6)
 st := fun u5 => mkF 27 [(1, (AV.ptr 1 0)), (2, (AV.ptr 2 0)), (3, (AV.ptr 3 0)), (4, (qI u5.1))] [(1, [(AV.list 1 u5.2.1 none)]), (2, [(AV.list 1 u5.2.2.1 (some 6400524288))]), (3, [(AV.vs 2012288 0 u5.2.2.2.1 1)]), (2012288, u5.2.2.2.2.1)] (zaB 5).1.toks 0 (some (2012288, u5.2.2.2.2.2.1, u5.2.2.2.2.2.2))
 out := fun y => (.exit 0, mkF 27 [(2, (AV.ptr 2 0)), (3, (AV.ptr 3 0))] [(2, [(AV.list 1 y.1 (some 6400524288))]), (3, [(AV.vs 2012288 0 y.2.1 1)]), (2012288, y.2.2.1)] (zaB 5).2.toks 0 (some (2012288, y.2.2.2.1, y.2.2.2.2)))
 b := fun u5 α kn ke => (match (decide (u5.1 < (u5.2.1.length : Int))) with | true => (if 0 <= u5.1 then (match u5.2.1[u5.1.toNat]? with | some c4 => (match (c4.drop 0)[0]? with | some x5 => (match Z1 29 x5 with | some l6 => (if (([] : qL).length + l6.length) * 288 <= zh then (if (u5.2.2.2.2.2.2 = u5.2.2.2.1 /\ u5.2.2.2.2.2.1 <= u5.2.2.2.2.2.2) /\ u5.2.2.2.1 * 1 <= u5.2.2.2.2.1.length /\ (u5.2.2.2.1 + 1) * 24 <= zh then (kn ((i64 (u5.1 + 1)), u5.2.1, u5.2.2.1, (u5.2.2.2.1 + 1), ((u5.2.2.2.2.1.take (u5.2.2.2.1 * 1) ++ [AV.list 29 (([] : qL) ++ l6) (some (TOB + u5.2.2.2.2.2.2))]).map datF), u5.2.2.2.2.2.1, (u5.2.2.2.2.2.2 + 1))) else none) else none) | none => none) | none => none) | none => none) else none) | false => (ke (u5.2.2.1, u5.2.2.2.1, (u5.2.2.2.2.1.map datF), u5.2.2.2.2.2)))
abbrev zpc (N : Nat) (x : Int × qL × qL × Nat × qA × Nat × Nat) : Option ((qL × Nat × qA × Nat × Nat)) := (ZV N).L N x
def zar (N : Nat) : FSpec where
 X := qL
 Y := Nat × qA × Nat × Nat
 ash := [[some 1]]
 S := ⟨[[some 1]], [], [], [], []⟩
 bm := true
 pat := fun a b => zk a fun v1 c2 => jg v1 fun c3 => zk c3 fun c4 c5 => Z3 1 c4 fun a0 => zQ c5 <| zQ c2 <| zQ b <| some a0
 args := fun x => [(AV.agg [(AV.list 1 x none)])]
 ret := fun y => ⟨(AV.agg [(AV.vs 0 0 y.1 1)]), [], some y.2.1, [], [], [], some (y.2.2.1, y.2.2.2)⟩
 t := fun x α k => (match zpc N (0, x, ([] : qL), 0, ([] : List AV), 0, 0) with | some y7 => (k (y7.2.1, (y7.2.2.1.map datF), y7.2.2.2)) | none => none)
abbrev zgm (N : Nat) (x : qL) : Option (Nat × qA × Nat × Nat) := (zar N).d x
def zdG (N : Nat) : List (Nat × LSpec) := [(5, ZV N)]
def zi9 : Code := Tryd.f58.body.getD .skip
theorem znY (N : Nat) : Par (ZV N).b := by
 intro x α β kn ke kn' ke' r r' h h1 h2
 revert h
 dsimp only [ZV]
 (repeat' (first | (with_reducible refine ze ?_ ?_) | split)) <;> intro h <;> first | exact h1 _ h | exact h2 _ h | cases h
theorem zkb (N : Nat) : ji (JT qP [23, 24]) (zv1 N) zaB N (zdG N) 5 zi9 (ZV N) := fun x α kn ke => by kernel_rfl
theorem zlk (N : Nat) : ZK qP zaB N (zdG N) 5 (zc 5 zi9) :=
 zD (zL qP [23, 24]) (zi _) zl zaB N (zdG N) 5 zi9 (l := []) (by kernel_rfl) (by kernel_rfl) an (ZV N) rfl (fun s x hc h => by dsimp only [ZV] at h; exact za0 hc h (fun _ _ _ _ => rfl) rfl rfl) (fun _ => rfl) (zkb N) (znY N)
theorem zmU (N : Nat) : Zd (zar N).t := by
 intro x α β k k' r r' h h1
 revert h
 dsimp only [zar]
 (repeat' (first | (with_reducible refine ze ?_ ?_) | split)) <;> intro h <;> first | exact h1 _ h | cases h
theorem zna (N : Nat) : Zh (JT qP [23, 24]) (zv1 N) zaB (lam N (zdG N)) Tryd.f58 (zar N) := fun x => by kernel_rfl
theorem zrF (N : Nat) (a : List AV) (b : qL) (x : (zar N).X) (h : (zar N).pat a b = some x) : a = (zar N).args x /\ b = (zar N).bs x := by
 obtain ⟨v1, c2, rfl, g0⟩ := zb (show zk _ _ = some x from h)
 obtain ⟨c3, rfl, g1⟩ := zR g0; clear g0
 obtain ⟨c4, c5, rfl, g2⟩ := zb g1; clear g1
 obtain ⟨a0, rfl, g3⟩ := zr g2; clear g2
 obtain ⟨rfl, g4⟩ := zg g3; clear g3
 obtain ⟨rfl, g5⟩ := zg g4; clear g4
 obtain ⟨rfl, g6⟩ := zg g5; clear g5
 clear h
 cases g6
 exact ⟨rfl, rfl⟩
def zwK (N : Nat) : Ent qP := zy (zL qP [23, 24]) (zi _) zl 58 Tryd.f58 Tryd.func58 rfl zaB (lam N (zdG N)) (zm (l := [(5, zc 5 zi9)]) (al (zlk N) an) (by kernel_rfl)) (zar N) (fun _ => ⟨rfl, rfl⟩) (zna N) (zrF N) (zmU N)
def Jd : Nat -> Keep × Keep := anF [(2, ⟨[1, 3, 5, 6], [], [3, 5, 6], [], [((6, 0), 1)], [], [], [], true, none, []⟩, ⟨[1, 3, 5, 6, 7], [], [3, 5, 6], [], [((6, 0), 1)], [], [], [], false, none, []⟩), (19, ⟨[1, 3, 5, 6, 8], [], [3, 5, 6, 8], [], [((6, 0), 1)], [], [], [], true, none, []⟩, ⟨[1, 3, 5, 6, 7, 8], [], [3, 5, 6, 8], [], [((6, 0), 1)], [], [], [], false, none, []⟩)] [(100018, ([], [((9, 0), 1)]))]
def zyH (N : Nat) : GamK := gam (P := qP) [zA5 N, zBR N, zyz N, zAD N, zvx N, zyC N, zB1 N, zwK N]
def jk (N : Nat) : LSpec where
 X := Int × qL × RT7 × qL × RT7
 Y := (Int × Int × qL × RT7 × qL × RT7) ⊕ (Int × qL × RT7 × qL × RT7)
 p := fun s => rdS 127 0 [(1, .int .i64), (3, .ptr 3 0), (5, .ptr 5 0), (6, .ptr 6 0), (8, .ptr 8 0)] [(3, .cells [.lst 1]), (5, .row RK7), (6, .cells [.tok 1 6401572864]), (8, .row RK7)] s fun ⟨a0, _, _, _, _, _⟩ ⟨⟨a1, _⟩, a2, ⟨a3, _⟩, a4, _⟩ => (a0, a1, a2, a3, a4)
 st := fun u19 => mkS 127 [(1, (qI u19.1)), (3, (AV.ptr 3 0)), (5, (AV.ptr 5 0)), (6, (AV.ptr 6 0)), (8, (AV.ptr 8 0))] [(3, [(AV.list 1 u19.2.1 none)]), (5, (zN u19.2.2.1)), (6, [(AV.list 1 u19.2.2.2.1 (some 6401572864))]), (8, (zN u19.2.2.2.2))] (Jd 19).1.toks 0
 out := fun y => match y with
  | .inl y => (.ret, mkS 127 [(1, (qI y.1)), (3, (AV.ptr 3 0)), (5, (AV.ptr 5 0)), (6, (AV.ptr 6 0)), (7, (qI y.2.1)), (8, (AV.ptr 8 0))] [(3, [(AV.list 1 y.2.2.1 none)]), (5, (zN y.2.2.2.1)), (6, [(AV.list 1 y.2.2.2.2.1 (some 6401572864))]), (8, (zN y.2.2.2.2.2))] (Jd 19).2.toks 0)
  | .inr y => (.normal, mkS 127 [(1, (qI y.1)), (3, (AV.ptr 3 0)), (5, (AV.ptr 5 0)), (6, (AV.ptr 6 0)), (8, (AV.ptr 8 0))] [(3, [(AV.list 1 y.2.1 none)]), (5, (zN y.2.2.1)), (6, [(AV.list 1 y.2.2.2.1 (some 6401572864))]), (8, (zN y.2.2.2.2))] (Jd 19).2.toks 0)
 b := fun u19 α kn ke => (match (u19.2.2.1.1 == 5) with | true => (match (u19.2.2.1.2.2.2.1 == u19.1) with | true => (ke (.inl (u19.1, 10, u19.2.1, u19.2.2.1, ([] : qL), u19.2.2.2.2))) | false => (match (u19.2.2.1.1 == 6) with | true => (match zhK N u19.2.2.2.2 with | some y21 => (match y21 with | true => (ke (.inl (u19.1, 10, u19.2.1, u19.2.2.1, ([] : qL), u19.2.2.2.2))) | false => (ke (.inr u19))) | none => none) | false => (ke (.inr u19)))) | false => (match (u19.2.2.1.1 == 6) with | true => (match zhK N u19.2.2.2.2 with | some y22 => (match y22 with | true => (ke (.inl (u19.1, 10, u19.2.1, u19.2.2.1, ([] : qL), u19.2.2.2.2))) | false => (ke (.inr u19))) | none => none) | false => (ke (.inr u19))))
abbrev zfC (N : Nat) (x : Int × qL × RT7 × qL × RT7) : Option ((Int × Int × qL × RT7 × qL × RT7) ⊕ (Int × qL × RT7 × qL × RT7)) := (jk N).L N x
def zas (N : Nat) : LSpec where
 X := Int × qL × RT7 × qL
 Y := (Int × Int × qL × RT7 × qL) ⊕ (Int × qL × RT7 × qL)
 p := fun s => rdS 127 0 [(1, .int .i64), (3, .ptr 3 0), (5, .ptr 5 0), (6, .ptr 6 0)] [(3, .cells [.lst 1]), (5, .row RK7), (6, .cells [.tok 1 6401572864])] s fun ⟨a0, _, _, _, _⟩ ⟨⟨a1, _⟩, a2, ⟨a3, _⟩, _⟩ => (a0, a1, a2, a3)
 st := fun u2 => mkS 127 [(1, (qI u2.1)), (3, (AV.ptr 3 0)), (5, (AV.ptr 5 0)), (6, (AV.ptr 6 0))] [(3, [(AV.list 1 u2.2.1 none)]), (5, (zN u2.2.2.1)), (6, [(AV.list 1 u2.2.2.2 (some 6401572864))])] (Jd 2).1.toks 0
 out := fun y => match y with
  | .inl y => (.ret, mkS 127 [(1, (qI y.1)), (3, (AV.ptr 3 0)), (5, (AV.ptr 5 0)), (6, (AV.ptr 6 0)), (7, (qI y.2.1))] [(3, [(AV.list 1 y.2.2.1 none)]), (5, (zN y.2.2.2.1)), (6, [(AV.list 1 y.2.2.2.2 (some 6401572864))])] (Jd 2).2.toks 0)
  | .inr y => (.normal, mkS 127 [(1, (qI y.1)), (3, (AV.ptr 3 0)), (5, (AV.ptr 5 0)), (6, (AV.ptr 6 0))] [(3, [(AV.list 1 y.2.1 none)]), (5, (zN y.2.2.1)), (6, [(AV.list 1 y.2.2.2 (some 6401572864))])] (Jd 2).2.toks 0)
 b := fun u2 α kn ke => (match zrs N u2.2.1 with | some y7 => (match (!y7) with | true => (ke (.inl (u2.1, 1, u2.2.1, u2.2.2.1, ([] : qL)))) | false => (match zqT N u2.2.2.1.2.2.1 with | some y8 => (match (!y8) with | true => (ke (.inl (u2.1, 1, u2.2.1, u2.2.2.1, ([] : qL)))) | false => (match (u2.2.2.1.1 == 3) with | true => (match zc3 N ([(zB (zx u2.2.2.1))]) with | some y9 => (match (!y9) with | true => (ke (.inl (u2.1, 1, u2.2.1, u2.2.2.1, ([] : qL)))) | false => (ke (.inr u2))) | none => none) | false => (ke (.inr u2)))) | none => none)) | none => none)
abbrev zwZ (N : Nat) (x : Int × qL × RT7 × qL) : Option ((Int × Int × qL × RT7 × qL) ⊕ (Int × qL × RT7 × qL)) := (zas N).L N x
def zdW (N : Nat) : FSpec where
 X := qL × Int × RT7
 Y := qL × Int
 ash := [[some 1], [none], [none, none, none, none, none, none, none, none, none, none, none, none, none, some 9, none, none, none, none, none, none, none, none, none, none, none, none, none, none, none]]
 S := ⟨[[some 1], [none]], [], [], [], []⟩
 pat := fun a b => zk a fun v1 c2 => jg v1 fun c3 => zk c3 fun c4 c5 => Z3 1 c4 fun a0 => zQ c5 <| zk c2 fun v6 c7 => jQ .i64 v6 fun a1 => zk c7 fun v8 c9 => zwv RK7 v8 fun a2 => zQ c9 <| zQ b <| some (a0, a1, a2)
 args := fun x => [(AV.agg [(AV.list 1 x.1 none)]), (AV.v (.int .i64 x.2.1)), (AV.agg (zN x.2.2))]
 ret := fun y => ⟨(AV.tup [(AV.agg [(AV.list 1 y.1 none)]), (AV.v (.int .i64 y.2))]), [], none, [], [], [], none⟩
 t := fun x α k => (match zwZ N (x.2.1, x.1, x.2.2, ([] : qL)) with | some y10 => (match y10 with | .inl z11 => (k (z11.2.2.2.2, z11.2.1)) | .inr z12 => (match (decide (z12.1 < 0)) with | true => (k (([] : qL), 6)) | false => (match (decide (z12.1 >= (z12.2.1.length : Int))) with | true => (k (([] : qL), 6)) | false => (match (decide (z12.2.2.1.2.2.2.1 < 0)) with | true => (k (([] : qL), 6)) | false => (match (decide (z12.2.2.1.2.2.2.1 >= (z12.2.1.length : Int))) with | true => (k (([] : qL), 6)) | false => (match (decide (z12.2.2.1.2.1 < 0)) with | true => (k (([] : qL), 2)) | false => (match (decide (z12.2.2.1.2.1 > 18014398509481984)) with | true => (k (([] : qL), 2)) | false => (match zvJ N (z12.2.1, z12.2.2.1.2.1) with | some y13 => (match (!y13) with | true => (k (([] : qL), 9)) | false => (if 0 <= z12.1 then (match z12.2.1[z12.1.toNat]? with | some c14 => (match zfU c14 with | some e15 => (match zim N e15.1 with | some y16 => (match zfC N (z12.1, z12.2.1, z12.2.2.1, z12.2.2.2, y16) with | some y23 => (match y23 with | .inl z24 => (k (z24.2.2.2.2.1, z24.2.1)) | .inr z25 => (if 0 <= z25.1 then (match z25.2.1[z25.1.toNat]? with | some c26 => (match (c26.drop 0)[0]? with | some x27 => (match Z1 29 x27 with | some l28 => (match ((l28.length : Int) == 100) with | true => (k (([] : qL), 8)) | false => (match zhI N z25.2.2.1.1 with | some y29 => (match y29 with | true => (match zgm N z25.2.1 with | some y30 => (if 0 <= z25.1 /\ z25.1 < (y30.1 : Int) then (match (y30.2.1.map (datJ y30.2.2.1 y30.2.2.2))[(((0 + z25.1.toNat) * 1) + 0)]? with | some c31 => (match c31 with | .list n32 l33 (some q34) => (if n32 = 29 /\ q34 = TOB + (((0 + z25.1.toNat) * 1) + 0) /\ y30.2.2.1 <= (((0 + z25.1.toNat) * 1) + 0) /\ (((0 + z25.1.toNat) * 1) + 0) < y30.2.2.2 then (if (l33.length + [(zN (z25.2.2.1.1, z25.2.2.1.2.1, z25.2.2.1.2.2.1, z25.2.2.1.2.2.2.1, z25.2.2.2.2.2.2.2.2))].length) * 288 <= zh then (if 0 <= z25.1 /\ z25.1 < (y30.1 : Int) then (if (((0 + z25.1.toNat) * 1) + 0) + 1 <= (y30.2.1.map (datJ y30.2.2.1 y30.2.2.2)).length then (if y30.1 * 1 <= (splice (y30.2.1.map (datJ y30.2.2.1 y30.2.2.2)) (((0 + z25.1.toNat) * 1) + 0) [(AV.list 29 (l33 ++ [(zN (z25.2.2.1.1, z25.2.2.1.2.1, z25.2.2.1.2.2.1, z25.2.2.1.2.2.2.1, z25.2.2.2.2.2.2.2.2))]) (some 7872))]).length then (k ((zK ((splice (y30.2.1.map (datJ y30.2.2.1 y30.2.2.2)) (((0 + z25.1.toNat) * 1) + 0) [(AV.list 29 (l33 ++ [(zN (z25.2.2.1.1, z25.2.2.1.2.1, z25.2.2.1.2.2.1, z25.2.2.1.2.2.2.1, z25.2.2.2.2.2.2.2.2))]) (some 7872))]).take (y30.1 * 1)) 1 y30.1), 0)) else none) else none) else none) else none) else none) | _ => none) | none => none) else none) | none => none) | false => (match zgm N z25.2.1 with | some y35 => (if 0 <= z25.1 /\ z25.1 < (y35.1 : Int) then (match (y35.2.1.map (datJ y35.2.2.1 y35.2.2.2))[(((0 + z25.1.toNat) * 1) + 0)]? with | some c36 => (match c36 with | .list n37 l38 (some q39) => (if n37 = 29 /\ q39 = TOB + (((0 + z25.1.toNat) * 1) + 0) /\ y35.2.2.1 <= (((0 + z25.1.toNat) * 1) + 0) /\ (((0 + z25.1.toNat) * 1) + 0) < y35.2.2.2 then (if (l38.length + [(zN z25.2.2.1)].length) * 288 <= zh then (if 0 <= z25.1 /\ z25.1 < (y35.1 : Int) then (if (((0 + z25.1.toNat) * 1) + 0) + 1 <= (y35.2.1.map (datJ y35.2.2.1 y35.2.2.2)).length then (if y35.1 * 1 <= (splice (y35.2.1.map (datJ y35.2.2.1 y35.2.2.2)) (((0 + z25.1.toNat) * 1) + 0) [(AV.list 29 (l38 ++ [(zN z25.2.2.1)]) (some 7872))]).length then (k ((zK ((splice (y35.2.1.map (datJ y35.2.2.1 y35.2.2.2)) (((0 + z25.1.toNat) * 1) + 0) [(AV.list 29 (l38 ++ [(zN z25.2.2.1)]) (some 7872))]).take (y35.1 * 1)) 1 y35.1), 0)) else none) else none) else none) else none) else none) | _ => none) | none => none) else none) | none => none)) | none => none)) | none => none) | none => none) | none => none) else none)) | none => none) | none => none) | none => none) | none => none) else none)) | none => none)))))))) | none => none)
abbrev zd7 (N : Nat) (x : qL × Int × RT7) : Option (qL × Int) := (zdW N).d x
def zbT (N : Nat) : List (Nat × LSpec) := [(2, zas N), (19, jk N)]
def zf8 : Code := Tryd.f54.body.getD .skip
theorem zpI (N : Nat) : Par (jk N).b := by
 intro x α β kn ke kn' ke' r r' h h1 h2
 revert h
 dsimp only [jk]
 (repeat' (first | (with_reducible refine ze ?_ ?_) | split)) <;> intro h <;> first | exact h1 _ h | exact h2 _ h | cases h
theorem zkz (N : Nat) : zlY (JT qP [111, 120]) (zyH N) Jd N (zbT N) 19 zf8 (jk N) := fun x α kn ke => by kernel_rfl
theorem zlQ (N : Nat) : ZK qP Jd N (zbT N) 19 (zc 19 zf8) :=
 jW (zL qP [111, 120]) (zi _) zl Jd N (zbT N) 19 zf8 (l := []) (by kernel_rfl) an (jk N) rfl (fun s x hc h => by dsimp only [jk] at h; exact zJ hc h (fun _ _ => rfl) rfl rfl rfl) (zkz N) (zpI N)
theorem zsA (N : Nat) : Par (zas N).b := by
 intro x α β kn ke kn' ke' r r' h h1 h2
 revert h
 dsimp only [zas]
 (repeat' (first | (with_reducible refine ze ?_ ?_) | split)) <;> intro h <;> first | exact h1 _ h | exact h2 _ h | cases h
theorem znK (N : Nat) : zlY (JT qP [111, 120]) (zyH N) Jd N (zbT N) 2 zf8 (zas N) := fun x α kn ke => by kernel_rfl
theorem zoU (N : Nat) : ZK qP Jd N (zbT N) 2 (zc 2 zf8) :=
 jW (zL qP [111, 120]) (zi _) zl Jd N (zbT N) 2 zf8 (l := []) (by kernel_rfl) an (zas N) rfl (fun s x hc h => by dsimp only [zas] at h; exact zJ hc h (fun _ _ => rfl) rfl rfl rfl) (znK N) (zsA N)
theorem zrT (N : Nat) : Zd (zdW N).t := by
 intro x α β k k' r r' h h1
 revert h
 dsimp only [zdW]
 (repeat' (first | (with_reducible refine ze ?_ ?_) | split)) <;> intro h <;> first | exact h1 _ h | cases h
theorem zs0 (N : Nat) : Zh (JT qP [111, 120]) (zyH N) Jd (lam N (zbT N)) Tryd.f54 (zdW N) := fun x => by kernel_rfl
theorem zyk (N : Nat) (a : List AV) (b : qL) (x : (zdW N).X) (h : (zdW N).pat a b = some x) : a = (zdW N).args x /\ b = (zdW N).bs x := by
 obtain ⟨v1, c2, rfl, g0⟩ := zb (show zk _ _ = some x from h)
 obtain ⟨c3, rfl, g1⟩ := zR g0; clear g0
 obtain ⟨c4, c5, rfl, g2⟩ := zb g1; clear g1
 obtain ⟨a0, rfl, g3⟩ := zr g2; clear g2
 obtain ⟨rfl, g4⟩ := zg g3; clear g3
 obtain ⟨v6, c7, rfl, g5⟩ := zb g4; clear g4
 obtain ⟨a1, rfl, g6⟩ := zC g5; clear g5
 obtain ⟨v8, c9, rfl, g7⟩ := zb g6; clear g6
 obtain ⟨a2, rfl, g8⟩ := zcM g7; clear g7
 obtain ⟨rfl, g9⟩ := zg g8; clear g8
 obtain ⟨rfl, g10⟩ := zg g9; clear g9
 clear h
 cases g10
 exact ⟨rfl, rfl⟩
def zvD (N : Nat) : Ent qP := zy (zL qP [111, 120]) (zi _) zl 54 Tryd.f54 Tryd.func54 rfl Jd (lam N (zbT N)) (zm (l := [(2, zc 2 zf8), (19, zc 19 zf8)]) (al (zoU N) (al (zlQ N) an)) (by kernel_rfl)) (zdW N) (fun _ => ⟨rfl, rfl⟩) (zs0 N) (zyk N) (zrT N)
def zwN : Nat -> Keep × Keep := anL []
def zDZ (N : Nat) : GamK := gam (P := qP) []
def zkq (N : Nat) : FSpec where
 X := RT7
 Y := Bool
 ash := [[none, none, none, none, none, none, none, none, none, none, none, none, none, some 9, none, none, none, none, none, none, none, none, none, none, none, none, none, none, none]]
 S := ⟨[[none]], [], [], [], []⟩
 pat := fun a b => rdA [.agg RK7] [] a b fun ⟨a0, _⟩ _ => a0
 args := fun x => [(AV.agg (zN x))]
 ret := fun y => ⟨(AV.v (.bool y)), [], none, [], [], [], none⟩
 t := fun x α k => (match (x.1 == 1) with | true => (k true) | false => (match (x.1 == 3) with | true => (k true) | false => (k (x.1 == 6))))
abbrev zyf (N : Nat) (x : RT7) : Option (Bool) := (zkq N).d x
theorem zsv (N : Nat) : Zd (zkq N).t := by
 intro x α β k k' r r' h h1
 revert h
 dsimp only [zkq]
 (repeat' (first | (with_reducible refine ze ?_ ?_) | split)) <;> intro h <;> first | exact h1 _ h | cases h
theorem ztA (N : Nat) : Zh (zn qP) (zDZ N) zwN (lam N []) Tryd.f17 (zkq N) := fun x => by kernel_rfl
def zDY (N : Nat) : Ent qP := zy (zd qP) (zi _) zl 17 Tryd.f17 Tryd.func17 rfl zwN (lam N []) (zm (l := []) an (by kernel_rfl)) (zkq N) (fun _ => ⟨rfl, rfl⟩) (ztA N) (fun _ _ _ h => zu h (fun _ _ => rfl) (fun _ _ => rfl)) (zsv N)
def ZL : Nat -> Keep × Keep := anL [(5, ⟨[2, 6], [], [2], [(1, 25)], [], [(5, 1)], [], [], false, none, []⟩, ⟨[2], [], [2], [(1, 25)], [], [(5, 1)], [], [], false, none, []⟩), (18, ⟨[2, 5, 8], [], [2, 1000005], [(1, 25)], [], [], [], [1000005], false, none, []⟩, ⟨[5], [], [1000005], [], [], [], [], [1000005], false, none, []⟩), (26, ⟨[2, 5, 8, 9], [], [2, 1000005], [(1, 25)], [], [], [], [1000005], false, none, []⟩, ⟨[2, 5, 8], [], [2, 1000005], [(1, 25)], [], [], [], [1000005], false, none, []⟩)]
def ziH (N : Nat) : GamK := gam (P := qP) [zvx N, zDp N, zv4 N, zCX N]
def zP (N : Nat) : LSpec where
 X := qL × Nat × Int × Int × qL × qA
 Y := (qL × Nat × Int × qL × qA)
 p := fun s => rdS 81 0 [(1, .lst 25), (2, .ptr 2 0), (5, .vs0 1000005 1), (8, .int .i64), (9, .int .i64)] [(2, .cells [.lst 1]), (1000005, .tt)] s fun ⟨a0, _, a1, a2, a3, _⟩ ⟨⟨a4, _⟩, a5, _⟩ => (a0, a1, a2, a3, a4, a5)
 st := fun u26 => mkS 81 [(1, (AV.list 25 u26.1 none)), (2, (AV.ptr 2 0)), (5, (AV.vs 1000005 0 u26.2.1 1)), (8, (qI u26.2.2.1)), (9, (qI u26.2.2.2.1))] [(2, [(AV.list 1 u26.2.2.2.2.1 none)]), (1000005, u26.2.2.2.2.2)] (ZL 26).1.toks 0
 out := fun y => (.exit 4, mkS 81 [(1, (AV.list 25 y.1 none)), (2, (AV.ptr 2 0)), (5, (AV.vs 1000005 0 y.2.1 1)), (8, (qI y.2.2.1))] [(2, [(AV.list 1 y.2.2.2.1 none)]), (1000005, y.2.2.2.2)] (ZL 26).2.toks 0)
 b := fun u26 α kn ke => (match (decide (u26.2.2.2.1 < (u26.1.length : Int))) with | true => (if 0 <= u26.2.2.1 /\ u26.2.2.1 < (u26.2.1 : Int) then (match u26.2.2.2.2.2[((0 + u26.2.2.1.toNat) * 1)]? with | some x23 => (match x23 with | .v (.int q25 n24) => (if q25 = .i64 then (match (decide (n24 < 0)) with | true => (match zgl N (u26.2.1, u26.2.2.2.1, (u26.2.2.2.2.2.map dat0)) with | some y26 => (match (!y26.1) with | true => (if 0 <= u26.2.2.1 then (match u26.2.2.2.2.1[u26.2.2.1.toNat]? with | some c27 => (match zfU c27 with | some e28 => (match zim N e28.1 with | some y29 => (if 0 <= u26.2.2.2.1 then (match u26.1[u26.2.2.2.1.toNat]? with | some c30 => (match ((c30.drop 9).drop 0)[0]? with | some x31 => (match Z1 9 x31 with | some l32 => (match zvF N (y29.2.2.2.2.2.2.2.2.2.2.2.2.2.1, l32) with | some y33 => (match y33 with | true => (if 0 <= u26.2.2.1 /\ u26.2.2.1 < (u26.2.1 : Int) then (if ((0 + u26.2.2.1.toNat) * 1) + 1 <= y26.2.length then (kn (u26.1, u26.2.1, u26.2.2.1, (i64 (u26.2.2.2.1 + 1)), u26.2.2.2.2.1, ((splice y26.2 ((0 + u26.2.2.1.toNat) * 1) [(AV.v (.int .i64 u26.2.2.2.1))]).map dat0))) else none) else none) | false => (kn (u26.1, u26.2.1, u26.2.2.1, (i64 (u26.2.2.2.1 + 1)), u26.2.2.2.2.1, (y26.2.map dat0)))) | none => none) | none => none) | none => none) | none => none) else none) | none => none) | none => none) | none => none) else none) | false => (kn (u26.1, u26.2.1, u26.2.2.1, (i64 (u26.2.2.2.1 + 1)), u26.2.2.2.2.1, (y26.2.map dat0)))) | none => none) | false => (ke (u26.1, u26.2.1, u26.2.2.1, u26.2.2.2.2.1, (u26.2.2.2.2.2.map dat0)))) else none) | _ => none) | none => none) else none) | false => (ke (u26.1, u26.2.1, u26.2.2.1, u26.2.2.2.2.1, (u26.2.2.2.2.2.map dat0))))
abbrev zi7 (N : Nat) (x : qL × Nat × Int × Int × qL × qA) : Option ((qL × Nat × Int × qL × qA)) := (zP N).L N x
def Zt (N : Nat) : LSpec where
 X := qL × Nat × Int × qL × qA
 Y := (Nat × qA)
 p := fun s => rdS 81 0 [(1, .lst 25), (2, .ptr 2 0), (5, .vs0 1000005 1), (8, .int .i64)] [(2, .cells [.lst 1]), (1000005, .tt)] s fun ⟨a0, _, a1, a2, _⟩ ⟨⟨a3, _⟩, a4, _⟩ => (a0, a1, a2, a3, a4)
 st := fun u18 => mkS 81 [(1, (AV.list 25 u18.1 none)), (2, (AV.ptr 2 0)), (5, (AV.vs 1000005 0 u18.2.1 1)), (8, (qI u18.2.2.1))] [(2, [(AV.list 1 u18.2.2.2.1 none)]), (1000005, u18.2.2.2.2)] (ZL 18).1.toks 0
 out := fun y => (.exit 2, mkS 81 [(5, (AV.vs 1000005 0 y.1 1))] [(1000005, y.2)] (ZL 18).2.toks 0)
 b := fun u18 α kn ke => (match (decide (u18.2.2.1 < (u18.2.2.2.1.length : Int))) with | true => (match zi7 N (u18.1, u18.2.1, u18.2.2.1, 0, u18.2.2.2.1, (u18.2.2.2.2.map dat0)) with | some y35 => (kn (y35.1, y35.2.1, (i64 (y35.2.2.1 + 1)), y35.2.2.2.1, (y35.2.2.2.2.map dat0))) | none => none) | false => (ke (u18.2.1, (u18.2.2.2.2.map dat0))))
abbrev ziK (N : Nat) (x : qL × Nat × Int × qL × qA) : Option ((Nat × qA)) := (Zt N).L N x
def Zp (N : Nat) : LSpec where
 X := Nat × qL × Int × qL × qA
 Y := (Nat × qL × qL × qA)
 p := fun s => rdS 81 0 [(5, .vs0 1000005 1), (1, .lst 25), (2, .ptr 2 0), (6, .int .i64)] [(2, .cells [.lst 1]), (1000005, .tt)] s fun ⟨a0, a1, _, a2, _⟩ ⟨⟨a3, _⟩, a4, _⟩ => (a0, a1, a2, a3, a4)
 st := fun u5 => mkS 81 [(5, (AV.vs 1000005 0 u5.1 1)), (1, (AV.list 25 u5.2.1 none)), (2, (AV.ptr 2 0)), (6, (qI u5.2.2.1))] [(2, [(AV.list 1 u5.2.2.2.1 none)]), (1000005, u5.2.2.2.2)] (ZL 5).1.toks 0
 out := fun y => (.exit 0, mkS 81 [(5, (AV.vs 1000005 0 y.1 1)), (1, (AV.list 25 y.2.1 none)), (2, (AV.ptr 2 0))] [(2, [(AV.list 1 y.2.2.1 none)]), (1000005, y.2.2.2)] (ZL 5).2.toks 0)
 b := fun u5 α kn ke => (match (decide (u5.2.2.1 < (u5.2.2.2.1.length : Int))) with | true => (if 0 <= u5.2.2.1 then (match u5.2.2.2.1[u5.2.2.1.toNat]? with | some c6 => (match zfU c6 with | some e7 => (match zim N e7.1 with | some y8 => (match zvL N (u5.2.1, (zpD y8)) with | some y9 => (match zgl N (u5.1, y9, (u5.2.2.2.2.map dat0)) with | some y10 => (match y10.1 with | true => (if u5.1 * 1 <= y10.2.length /\ (u5.1 + [[(AV.v (.int .i64 (-1)))]].length) * 8 <= zh then (kn ((u5.1 + [[(AV.v (.int .i64 (-1)))]].length), u5.2.1, (i64 (u5.2.2.1 + 1)), u5.2.2.2.1, ((y10.2.take (u5.1 * 1) ++ [[(AV.v (.int .i64 (-1)))]].flatten).map dat0))) else none) | false => (if u5.1 * 1 <= y10.2.length /\ (u5.1 + [[(AV.v (.int .i64 y9))]].length) * 8 <= zh then (kn ((u5.1 + [[(AV.v (.int .i64 y9))]].length), u5.2.1, (i64 (u5.2.2.1 + 1)), u5.2.2.2.1, ((y10.2.take (u5.1 * 1) ++ [[(AV.v (.int .i64 y9))]].flatten).map dat0))) else none)) | none => none) | none => none) | none => none) | none => none) | none => none) else none) | false => (ke (u5.1, u5.2.1, u5.2.2.2.1, (u5.2.2.2.2.map dat0))))
abbrev zni (N : Nat) (x : Nat × qL × Int × qL × qA) : Option ((Nat × qL × qL × qA)) := (Zp N).L N x
def zam (N : Nat) : FSpec where
 X := qL × qL
 Y := Nat × qA
 ash := [[some 1], [some 25]]
 S := ⟨[[some 1000001]], [], [], [], []⟩
 bm := true
 pat := fun a b => zk a fun v1 c2 => jg v1 fun c3 => zk c3 fun c4 c5 => Z3 1 c4 fun a0 => zQ c5 <| zk c2 fun v6 c7 => Z3 25 v6 fun a1 => zQ c7 <| zQ b <| some (a0, a1)
 args := fun x => [(AV.agg [(AV.list 1 x.1 none)]), (AV.list 25 x.2 none)]
 ret := fun y => ⟨(AV.vs 0 0 y.1 1), [], some y.2, [], [], [], none⟩
 t := fun x α k => (match zni N (0, x.2, 0, x.1, ([] : List AV)) with | some y11 => (match ziK N (y11.2.1, y11.1, 0, y11.2.2.1, (y11.2.2.2.map dat0)) with | some y36 => (k (y36.1, (y36.2.map dat0))) | none => none) | none => none)
abbrev znV (N : Nat) (x : qL × qL) : Option (Nat × qA) := (zam N).d x
def jT (N : Nat) : List (Nat × LSpec) := [(5, Zp N), (18, Zt N), (26, zP N)]
def Ju : Code := Tryd.f59.body.getD .skip
theorem zk6 (N : Nat) : Par (zP N).b := by
 intro x α β kn ke kn' ke' r r' h h1 h2
 revert h
 dsimp only [zP]
 (repeat' (first | (with_reducible refine ze ?_ ?_) | split)) <;> intro h <;> first | exact h1 _ h | exact h2 _ h | cases h
theorem zhq (N : Nat) : ji (JT qP [33]) (ziH N) ZL N (jT N) 26 Ju (zP N) := fun x α kn ke => by kernel_rfl
theorem zcQ (N : Nat) : ZK qP ZL N (jT N) 26 (zc 26 Ju) :=
 zD (zL qP [33]) (zi _) zl ZL N (jT N) 26 Ju (l := []) (by kernel_rfl) (by kernel_rfl) an (zP N) rfl (fun s x hc h => by dsimp only [zP] at h; exact zJ hc h (fun _ _ => rfl) rfl rfl rfl) (fun _ => rfl) (zhq N) (zk6 N)
theorem zkC (N : Nat) : Par (Zt N).b := by
 intro x α β kn ke kn' ke' r r' h h1 h2
 revert h
 dsimp only [Zt]
 (repeat' (first | (with_reducible refine ze ?_ ?_) | split)) <;> intro h <;> first | exact h1 _ h | exact h2 _ h | cases h
theorem zhF (N : Nat) : ji (JT qP [33]) (ziH N) ZL N (jT N) 18 Ju (Zt N) := fun x α kn ke => by kernel_rfl
theorem zin (N : Nat) : ZK qP ZL N (jT N) 18 (zc 18 Ju) :=
 zD (zL qP [33]) (zi _) zl ZL N (jT N) 18 Ju (l := [(26, zc 26 Ju)]) (by kernel_rfl) (by kernel_rfl) (al (zcQ N) an) (Zt N) rfl (fun s x hc h => by dsimp only [Zt] at h; exact zJ hc h (fun _ _ => rfl) rfl rfl rfl) (fun _ => rfl) (zhF N) (zkC N)
theorem znL (N : Nat) : Par (Zp N).b := by
 intro x α β kn ke kn' ke' r r' h h1 h2
 revert h
 dsimp only [Zp]
 (repeat' (first | (with_reducible refine ze ?_ ?_) | split)) <;> intro h <;> first | exact h1 _ h | exact h2 _ h | cases h
theorem zkJ (N : Nat) : ji (JT qP [33]) (ziH N) ZL N (jT N) 5 Ju (Zp N) := fun x α kn ke => by kernel_rfl
theorem zkx (N : Nat) : ZK qP ZL N (jT N) 5 (zc 5 Ju) :=
 zD (zL qP [33]) (zi _) zl ZL N (jT N) 5 Ju (l := []) (by kernel_rfl) (by kernel_rfl) an (Zp N) rfl (fun s x hc h => by dsimp only [Zp] at h; exact zJ hc h (fun _ _ => rfl) rfl rfl rfl) (fun _ => rfl) (zkJ N) (znL N)
theorem zl1 (N : Nat) : Zd (zam N).t := by
 intro x α β k k' r r' h h1
 revert h
 dsimp only [zam]
 (repeat' (first | (with_reducible refine ze ?_ ?_) | split)) <;> intro h <;> first | exact h1 _ h | cases h
theorem zm4 (N : Nat) : Zh (JT qP [33]) (ziH N) ZL (lam N (jT N)) Tryd.f59 (zam N) := fun x => by kernel_rfl
theorem zrL (N : Nat) (a : List AV) (b : qL) (x : (zam N).X) (h : (zam N).pat a b = some x) : a = (zam N).args x /\ b = (zam N).bs x := by
 obtain ⟨v1, c2, rfl, g0⟩ := zb (show zk _ _ = some x from h)
 obtain ⟨c3, rfl, g1⟩ := zR g0; clear g0
 obtain ⟨c4, c5, rfl, g2⟩ := zb g1; clear g1
 obtain ⟨a0, rfl, g3⟩ := zr g2; clear g2
 obtain ⟨rfl, g4⟩ := zg g3; clear g3
 obtain ⟨v6, c7, rfl, g5⟩ := zb g4; clear g4
 obtain ⟨a1, rfl, g6⟩ := zr g5; clear g5
 obtain ⟨rfl, g7⟩ := zg g6; clear g6
 obtain ⟨rfl, g8⟩ := zg g7; clear g7
 clear h
 cases g8
 exact ⟨rfl, rfl⟩
def zBc (N : Nat) : Ent qP := zy (zL qP [33]) (zi _) zl 59 Tryd.f59 Tryd.func59 rfl ZL (lam N (jT N)) (zm (l := [(5, zc 5 Ju), (18, zc 18 Ju), (26, zc 26 Ju)]) (al (zkx N) (al (zin N) (al (zcQ N) an))) (by kernel_rfl)) (zam N) (fun _ => ⟨rfl, rfl⟩) (zm4 N) (zrL N) (zl1 N)
def jj : Nat -> Keep × Keep := anF [(18, ⟨[2, 3, 6, 9, 10, 12], [(11, 1)], [3, 6, 9, 40, 43], [(1, 25)], [((6, 0), 1)], [], [], [40, 43], false, some 40, []⟩, ⟨[2, 6, 8, 9, 10], [(11, 1)], [6, 9, 40, 43], [(1, 25), (7, 1)], [((6, 0), 1)], [], [], [40, 43], false, some 40, []⟩), (30, ⟨[2, 3, 6, 9, 10, 12, 13, 14, 15, 16, 68], [(11, 1)], [3, 6, 9, 13, 14, 40, 43], [(1, 25)], [((6, 0), 1)], [], [], [40, 43], true, some 40, []⟩, ⟨[2, 3, 6, 9, 10, 12, 13, 14, 15], [(11, 1)], [3, 6, 9, 13, 14, 40, 43], [(1, 25)], [((6, 0), 1)], [], [], [40, 43], false, some 40, []⟩), (42, ⟨[2, 6, 9, 10, 17], [(11, 1)], [6, 9, 43], [(1, 25)], [((6, 0), 1)], [], [((9, 0), 1)], [43], false, none, []⟩, ⟨[6, 9], [(11, 1)], [6, 9], [], [((6, 0), 1)], [], [((9, 0), 1)], [], false, none, []⟩)] [(100032, ([], [((9, 0), 1)]))]
def zq7 (N : Nat) : GamK := gam (P := qP) [zA5 N, zyz N, zAD N, zwK N, zBc N, zvx N, zDY N, zBT N, zyC N, zv4 N]
def Zv (N : Nat) : LSpec where
 X := qL × qL × Int × Nat × Int × qL × Nat × qA × qA
 Y := (qL × qL × Nat × qA)
 p := fun s => rdS 155 0 [(11, .tok 1 1280000704), (1, .lst 25), (2, .int .i64), (6, .ptr 6 0), (9, .ptr 9 0), (10, .vs0 43 1), (17, .int .i64)] [(6, .cells [.tok 1 6401572864]), (9, .cells [.vs0 2036864 1]), (43, .tt), (2036864, .tt)] s fun ⟨a0, a1, a2, _, _, a3, a4, _⟩ ⟨⟨a5, _⟩, ⟨a6, _⟩, a7, a8, _⟩ => (a0, a1, a2, a3, a4, a5, a6, a7, a8)
 st := fun u42 => mkS 155 [(11, (AV.list 1 u42.1 (some 1280000704))), (1, (AV.list 25 u42.2.1 none)), (2, (qI u42.2.2.1)), (6, (AV.ptr 6 0)), (9, (AV.ptr 9 0)), (10, (AV.vs 43 0 u42.2.2.2.1 1)), (17, (qI u42.2.2.2.2.1))] [(6, [(AV.list 1 u42.2.2.2.2.2.1 (some 6401572864))]), (9, [(AV.vs 2036864 0 u42.2.2.2.2.2.2.1 1)]), (43, u42.2.2.2.2.2.2.2.1), (2036864, u42.2.2.2.2.2.2.2.2)] (jj 42).1.toks 0
 out := fun y => (.exit 2, mkS 155 [(11, (AV.list 1 y.1 (some 1280000704))), (6, (AV.ptr 6 0)), (9, (AV.ptr 9 0))] [(6, [(AV.list 1 y.2.1 (some 6401572864))]), (9, [(AV.vs 2036864 0 y.2.2.1 1)]), (2036864, y.2.2.2)] (jj 42).2.toks 0)
 b := fun u42 α kn ke => (match (decide (u42.2.2.2.2.1 < (u42.2.1.length : Int))) with | true => (match zgl N (u42.2.2.2.1, u42.2.2.2.2.1, (u42.2.2.2.2.2.2.2.1.map dat0)) with | some y58 => (match (!y58.1) with | true => (if (u42.1.length + [[(AV.v (.int .i64 ((u42.2.2.2.2.2.2.1 : Nat) : Int)))]].length) * 8 <= zh then (if 0 <= u42.2.2.2.2.1 then (match u42.2.1[u42.2.2.2.2.1.toNat]? with | some c59 => (match zju c59 with | some e60 => (if u42.2.2.2.2.2.2.1 * 1 <= u42.2.2.2.2.2.2.2.2.length /\ (u42.2.2.2.2.2.2.1 + [[(AV.list 29 [(zN (1, u42.2.2.1, (⟨#[]⟩ : ByteArray), 0, e60))] none)]].length) * 24 <= zh then (kn ((u42.1 ++ [[(AV.v (.int .i64 ((u42.2.2.2.2.2.2.1 : Nat) : Int)))]]), u42.2.1, u42.2.2.1, u42.2.2.2.1, (i64 (u42.2.2.2.2.1 + 1)), u42.2.2.2.2.2.1, (u42.2.2.2.2.2.2.1 + [[(AV.list 29 [(zN (1, u42.2.2.1, (⟨#[]⟩ : ByteArray), 0, e60))] none)]].length), (y58.2.map dat0), ((u42.2.2.2.2.2.2.2.2.take (u42.2.2.2.2.2.2.1 * 1) ++ [[(AV.list 29 [(zN (1, u42.2.2.1, (⟨#[]⟩ : ByteArray), 0, e60))] none)]].flatten).map dat0))) else none) | none => none) | none => none) else none) else none) | false => (kn (u42.1, u42.2.1, u42.2.2.1, u42.2.2.2.1, (i64 (u42.2.2.2.2.1 + 1)), u42.2.2.2.2.2.1, u42.2.2.2.2.2.2.1, (y58.2.map dat0), (u42.2.2.2.2.2.2.2.2.map dat0)))) | none => none) | false => (ke (u42.1, u42.2.2.2.2.2.1, u42.2.2.2.2.2.2.1, (u42.2.2.2.2.2.2.2.2.map dat0))))
abbrev zpm (N : Nat) (x : qL × qL × Int × Nat × Int × qL × Nat × qA × qA) : Option ((qL × qL × Nat × qA)) := (Zv N).L N x
def jB (N : Nat) : LSpec where
 X := qL × qL × Int × Nat × Int × Bool × Int × Bool × qL × qL × Nat × RT7 × RT7 × qA × qA × Nat × Nat
 Y := (qL × qL × Int × Nat × Int × Bool × qL × qL × Nat × RT7 × RT7 × qA × qA × Nat × Nat)
 p := fun s => rdF 155 0 40 [(11, .tok 1 1280000704), (1, .lst 25), (2, .int .i64), (3, .ptr 3 0), (6, .ptr 6 0), (9, .ptr 9 0), (10, .vs0 43 1), (12, .int .i64), (13, .ptr 13 0), (14, .ptr 14 0), (15, .bool), (16, .int .i64), (68, .bool)] [(3, .cells [.lst 1]), (6, .cells [.tok 1 6401572864]), (9, .cells [.vs0 40 1]), (13, .row RK7), (14, .row RK7), (40, .tt), (43, .tt)] s fun ⟨a0, a1, a2, _, _, _, a3, a4, _, _, a5, a6, a7, _⟩ ⟨⟨a8, _⟩, ⟨a9, _⟩, ⟨a10, _⟩, a11, a12, a13, a14, _⟩ a15 a16 => (a0, a1, a2, a3, a4, a5, a6, a7, a8, a9, a10, a11, a12, a13, a14, a15, a16)
 st := fun u30 => mkF 155 [(11, (AV.list 1 u30.1 (some 1280000704))), (1, (AV.list 25 u30.2.1 none)), (2, (qI u30.2.2.1)), (3, (AV.ptr 3 0)), (6, (AV.ptr 6 0)), (9, (AV.ptr 9 0)), (10, (AV.vs 43 0 u30.2.2.2.1 1)), (12, (qI u30.2.2.2.2.1)), (13, (AV.ptr 13 0)), (14, (AV.ptr 14 0)), (15, (AV.v (.bool u30.2.2.2.2.2.1))), (16, (qI u30.2.2.2.2.2.2.1)), (68, (AV.v (.bool u30.2.2.2.2.2.2.2.1)))] [(3, [(AV.list 1 u30.2.2.2.2.2.2.2.2.1 none)]), (6, [(AV.list 1 u30.2.2.2.2.2.2.2.2.2.1 (some 6401572864))]), (9, [(AV.vs 40 0 u30.2.2.2.2.2.2.2.2.2.2.1 1)]), (13, (zN u30.2.2.2.2.2.2.2.2.2.2.2.1)), (14, (zN u30.2.2.2.2.2.2.2.2.2.2.2.2.1)), (40, u30.2.2.2.2.2.2.2.2.2.2.2.2.2.1), (43, u30.2.2.2.2.2.2.2.2.2.2.2.2.2.2.1)] (jj 30).1.toks 0 (some (40, u30.2.2.2.2.2.2.2.2.2.2.2.2.2.2.2.1, u30.2.2.2.2.2.2.2.2.2.2.2.2.2.2.2.2))
 out := fun y => (.normal, mkF 155 [(11, (AV.list 1 y.1 (some 1280000704))), (1, (AV.list 25 y.2.1 none)), (2, (qI y.2.2.1)), (3, (AV.ptr 3 0)), (6, (AV.ptr 6 0)), (9, (AV.ptr 9 0)), (10, (AV.vs 43 0 y.2.2.2.1 1)), (12, (qI y.2.2.2.2.1)), (13, (AV.ptr 13 0)), (14, (AV.ptr 14 0)), (15, (AV.v (.bool y.2.2.2.2.2.1)))] [(3, [(AV.list 1 y.2.2.2.2.2.2.1 none)]), (6, [(AV.list 1 y.2.2.2.2.2.2.2.1 (some 6401572864))]), (9, [(AV.vs 40 0 y.2.2.2.2.2.2.2.2.1 1)]), (13, (zN y.2.2.2.2.2.2.2.2.2.1)), (14, (zN y.2.2.2.2.2.2.2.2.2.2.1)), (40, y.2.2.2.2.2.2.2.2.2.2.2.1), (43, y.2.2.2.2.2.2.2.2.2.2.2.2.1)] (jj 30).2.toks 0 (some (40, y.2.2.2.2.2.2.2.2.2.2.2.2.2.1, y.2.2.2.2.2.2.2.2.2.2.2.2.2.2)))
 b := fun u30 α kn ke => (match u30.2.2.2.2.2.2.2.1 with | true => (if 0 <= u30.2.2.2.2.2.2.1 then (match u30.2.1[u30.2.2.2.2.2.2.1.toNat]? with | some c24 => (match zju c24 with | some e25 => (match zyf N u30.2.2.2.2.2.2.2.2.2.2.2.1 with | some y26 => (match y26 with | true => (if 0 <= u30.2.2.2.2.2.2.1 then (match u30.2.1[u30.2.2.2.2.2.2.1.toNat]? with | some c27 => (match zju c27 with | some e28 => (match zdU N ((zx u30.2.2.2.2.2.2.2.2.2.2.2.1), e28) with | some y29 => (ke (u30.1, u30.2.1, u30.2.2.1, u30.2.2.2.1, u30.2.2.2.2.1, y29, u30.2.2.2.2.2.2.2.2.1, u30.2.2.2.2.2.2.2.2.2.1, u30.2.2.2.2.2.2.2.2.2.2.1, u30.2.2.2.2.2.2.2.2.2.2.2.1, (1, u30.2.2.2.2.2.2.2.2.2.2.2.2.1.2.1, u30.2.2.2.2.2.2.2.2.2.2.2.2.1.2.2.1, u30.2.2.2.2.2.2.2.2.2.2.2.2.1.2.2.2.1, e25), (u30.2.2.2.2.2.2.2.2.2.2.2.2.2.1.map datF), (u30.2.2.2.2.2.2.2.2.2.2.2.2.2.2.1.map dat0), u30.2.2.2.2.2.2.2.2.2.2.2.2.2.2.2)) | none => none) | none => none) | none => none) else none) | false => (ke (u30.1, u30.2.1, u30.2.2.1, u30.2.2.2.1, u30.2.2.2.2.1, false, u30.2.2.2.2.2.2.2.2.1, u30.2.2.2.2.2.2.2.2.2.1, u30.2.2.2.2.2.2.2.2.2.2.1, u30.2.2.2.2.2.2.2.2.2.2.2.1, (1, u30.2.2.2.2.2.2.2.2.2.2.2.2.1.2.1, u30.2.2.2.2.2.2.2.2.2.2.2.2.1.2.2.1, u30.2.2.2.2.2.2.2.2.2.2.2.2.1.2.2.2.1, e25), (u30.2.2.2.2.2.2.2.2.2.2.2.2.2.1.map datF), (u30.2.2.2.2.2.2.2.2.2.2.2.2.2.2.1.map dat0), u30.2.2.2.2.2.2.2.2.2.2.2.2.2.2.2))) | none => none) | none => none) | none => none) else none) | false => (ke (u30.1, u30.2.1, u30.2.2.1, u30.2.2.2.1, u30.2.2.2.2.1, u30.2.2.2.2.2.1, u30.2.2.2.2.2.2.2.2.1, u30.2.2.2.2.2.2.2.2.2.1, u30.2.2.2.2.2.2.2.2.2.2.1, u30.2.2.2.2.2.2.2.2.2.2.2.1, u30.2.2.2.2.2.2.2.2.2.2.2.2.1, (u30.2.2.2.2.2.2.2.2.2.2.2.2.2.1.map datF), (u30.2.2.2.2.2.2.2.2.2.2.2.2.2.2.1.map dat0), u30.2.2.2.2.2.2.2.2.2.2.2.2.2.2.2)))
abbrev zc1 (N : Nat) (x : qL × qL × Int × Nat × Int × Bool × Int × Bool × qL × qL × Nat × RT7 × RT7 × qA × qA × Nat × Nat) : Option ((qL × qL × Int × Nat × Int × Bool × qL × qL × Nat × RT7 × RT7 × qA × qA × Nat × Nat)) := (jB N).L N x
def Zu (N : Nat) : LSpec where
 X := qL × qL × Int × Nat × Int × qL × qL × Nat × qA × qA × Nat × Nat
 Y := (qL × qL × qL × Int × Int × Nat × qL × Nat × qA × qA × Nat × Nat) ⊕ (qL × qL × Int × Nat × qL × Nat × qA × qA × Nat × Nat)
 p := fun s => rdF 155 0 40 [(11, .tok 1 1280000704), (1, .lst 25), (2, .int .i64), (3, .ptr 3 0), (6, .ptr 6 0), (9, .ptr 9 0), (10, .vs0 43 1), (12, .int .i64)] [(3, .cells [.lst 1]), (6, .cells [.tok 1 6401572864]), (9, .cells [.vs0 40 1]), (40, .tt), (43, .tt)] s fun ⟨a0, a1, a2, _, _, _, a3, a4, _⟩ ⟨⟨a5, _⟩, ⟨a6, _⟩, ⟨a7, _⟩, a8, a9, _⟩ a10 a11 => (a0, a1, a2, a3, a4, a5, a6, a7, a8, a9, a10, a11)
 st := fun u18 => mkF 155 [(11, (AV.list 1 u18.1 (some 1280000704))), (1, (AV.list 25 u18.2.1 none)), (2, (qI u18.2.2.1)), (3, (AV.ptr 3 0)), (6, (AV.ptr 6 0)), (9, (AV.ptr 9 0)), (10, (AV.vs 43 0 u18.2.2.2.1 1)), (12, (qI u18.2.2.2.2.1))] [(3, [(AV.list 1 u18.2.2.2.2.2.1 none)]), (6, [(AV.list 1 u18.2.2.2.2.2.2.1 (some 6401572864))]), (9, [(AV.vs 40 0 u18.2.2.2.2.2.2.2.1 1)]), (40, u18.2.2.2.2.2.2.2.2.1), (43, u18.2.2.2.2.2.2.2.2.2.1)] (jj 18).1.toks 0 (some (40, u18.2.2.2.2.2.2.2.2.2.2.1, u18.2.2.2.2.2.2.2.2.2.2.2))
 out := fun y => match y with
  | .inl y => (.ret, mkF 155 [(11, (AV.list 1 y.1 (some 1280000704))), (1, (AV.list 25 y.2.1 none)), (7, (AV.list 1 y.2.2.1 none)), (2, (qI y.2.2.2.1)), (6, (AV.ptr 6 0)), (8, (qI y.2.2.2.2.1)), (9, (AV.ptr 9 0)), (10, (AV.vs 43 0 y.2.2.2.2.2.1 1))] [(6, [(AV.list 1 y.2.2.2.2.2.2.1 (some 6401572864))]), (9, [(AV.vs 40 0 y.2.2.2.2.2.2.2.1 1)]), (40, y.2.2.2.2.2.2.2.2.1), (43, y.2.2.2.2.2.2.2.2.2.1)] (jj 18).2.toks 0 (some (40, y.2.2.2.2.2.2.2.2.2.2.1, y.2.2.2.2.2.2.2.2.2.2.2)))
  | .inr y => (.exit 0, mkF 155 [(11, (AV.list 1 y.1 (some 1280000704))), (1, (AV.list 25 y.2.1 none)), (2, (qI y.2.2.1)), (6, (AV.ptr 6 0)), (9, (AV.ptr 9 0)), (10, (AV.vs 43 0 y.2.2.2.1 1))] [(6, [(AV.list 1 y.2.2.2.2.1 (some 6401572864))]), (9, [(AV.vs 40 0 y.2.2.2.2.2.1 1)]), (40, y.2.2.2.2.2.2.1), (43, y.2.2.2.2.2.2.2.1)] (jj 18).2.toks 0 (some (40, y.2.2.2.2.2.2.2.2.1, y.2.2.2.2.2.2.2.2.2)))
 b := fun u18 α kn ke => (match (decide (u18.2.2.2.2.1 < ((u18.2.2.2.1 : Nat) : Int))) with | true => (if 0 <= u18.2.2.2.2.1 then (match u18.2.2.2.2.2.1[u18.2.2.2.2.1.toNat]? with | some c38 => (match zfU c38 with | some e39 => (match zim N e39.1 with | some y40 => (if 0 <= u18.2.2.2.2.1 /\ u18.2.2.2.2.1 < (u18.2.2.2.1 : Int) then (match u18.2.2.2.2.2.2.2.2.2.1[((0 + u18.2.2.2.2.1.toNat) * 1)]? with | some x41 => (match x41 with | .v (.int q43 n42) => (if q43 = .i64 then (match zc1 N (u18.1, u18.2.1, u18.2.2.1, u18.2.2.2.1, u18.2.2.2.2.1, (y40.1 == 2), n42, (decide (n42 >= 0)), u18.2.2.2.2.2.1, u18.2.2.2.2.2.2.1, u18.2.2.2.2.2.2.2.1, y40, (2, u18.2.2.1, (⟨#[]⟩ : ByteArray), 0, y40.2.2.2.2), (u18.2.2.2.2.2.2.2.2.1.map datF), (u18.2.2.2.2.2.2.2.2.2.1.map dat0), u18.2.2.2.2.2.2.2.2.2.2) with | some y44 => (match zhK N y44.2.2.2.2.2.2.2.2.2.1 with | some y45 => (match y45 with | true => (match (!y44.2.2.2.2.2.1) with | true => (if 0 <= y44.2.2.2.2.1 /\ y44.2.2.2.2.1 < (y44.2.2.2.2.2.2.2.2.1 : Int) then (match y44.2.2.2.2.2.2.2.2.2.2.2.1[(((0 + y44.2.2.2.2.1.toNat) * 1) + 0)]? with | some c46 => (match c46 with | .list n47 l48 (some q49) => (if n47 = 29 /\ q49 = TOB + (((0 + y44.2.2.2.2.1.toNat) * 1) + 0) /\ y44.2.2.2.2.2.2.2.2.2.2.2.2.2.1 <= (((0 + y44.2.2.2.2.1.toNat) * 1) + 0) /\ (((0 + y44.2.2.2.2.1.toNat) * 1) + 0) < y44.2.2.2.2.2.2.2.2.2.2.2.2.2.2 then (if (l48.length + [(zN y44.2.2.2.2.2.2.2.2.2.2.1)].length) * 288 <= zh then (if 0 <= y44.2.2.2.2.1 /\ y44.2.2.2.2.1 < (y44.2.2.2.2.2.2.2.2.1 : Int) then (if (((0 + y44.2.2.2.2.1.toNat) * 1) + 0) + 1 <= y44.2.2.2.2.2.2.2.2.2.2.2.1.length then (if (y44.1.length + [[(AV.v (.int .i64 y44.2.2.2.2.1))]].length) * 8 <= zh then (if 0 <= y44.2.2.2.2.1 /\ y44.2.2.2.2.1 < (y44.2.2.2.2.2.2.2.2.1 : Int) then (match (splice y44.2.2.2.2.2.2.2.2.2.2.2.1 (((0 + y44.2.2.2.2.1.toNat) * 1) + 0) [(AV.list 29 (l48 ++ [(zN y44.2.2.2.2.2.2.2.2.2.2.1)]) (some 6592))])[(((0 + y44.2.2.2.2.1.toNat) * 1) + 0)]? with | some x50 => (match Z1 29 x50 with | some l51 => (match (decide ((l51.length : Int) > 100)) with | true => (ke (.inl ((y44.1 ++ [[(AV.v (.int .i64 y44.2.2.2.2.1))]]), y44.2.1, ([] : qL), y44.2.2.1, 8, y44.2.2.2.1, ([] : qL), y44.2.2.2.2.2.2.2.2.1, ((splice y44.2.2.2.2.2.2.2.2.2.2.2.1 (((0 + y44.2.2.2.2.1.toNat) * 1) + 0) [(AV.list 29 (l48 ++ [(zN y44.2.2.2.2.2.2.2.2.2.2.1)]) (some 6592))]).map datF), (y44.2.2.2.2.2.2.2.2.2.2.2.2.1.map dat0), ((((0 + y44.2.2.2.2.1.toNat) * 1) + 0) + 1), y44.2.2.2.2.2.2.2.2.2.2.2.2.2.2))) | false => (kn ((y44.1 ++ [[(AV.v (.int .i64 y44.2.2.2.2.1))]]), y44.2.1, y44.2.2.1, y44.2.2.2.1, (i64 (y44.2.2.2.2.1 + 1)), y44.2.2.2.2.2.2.1, y44.2.2.2.2.2.2.2.1, y44.2.2.2.2.2.2.2.2.1, ((splice y44.2.2.2.2.2.2.2.2.2.2.2.1 (((0 + y44.2.2.2.2.1.toNat) * 1) + 0) [(AV.list 29 (l48 ++ [(zN y44.2.2.2.2.2.2.2.2.2.2.1)]) (some 6592))]).map datF), (y44.2.2.2.2.2.2.2.2.2.2.2.2.1.map dat0), ((((0 + y44.2.2.2.2.1.toNat) * 1) + 0) + 1), y44.2.2.2.2.2.2.2.2.2.2.2.2.2.2))) | none => none) | none => none) else none) else none) else none) else none) else none) else none) | _ => none) | none => none) else none) | false => (kn (y44.1, y44.2.1, y44.2.2.1, y44.2.2.2.1, (i64 (y44.2.2.2.2.1 + 1)), y44.2.2.2.2.2.2.1, y44.2.2.2.2.2.2.2.1, y44.2.2.2.2.2.2.2.2.1, (y44.2.2.2.2.2.2.2.2.2.2.2.1.map datF), (y44.2.2.2.2.2.2.2.2.2.2.2.2.1.map dat0), y44.2.2.2.2.2.2.2.2.2.2.2.2.2))) | false => (kn (y44.1, y44.2.1, y44.2.2.1, y44.2.2.2.1, (i64 (y44.2.2.2.2.1 + 1)), y44.2.2.2.2.2.2.1, y44.2.2.2.2.2.2.2.1, y44.2.2.2.2.2.2.2.2.1, (y44.2.2.2.2.2.2.2.2.2.2.2.1.map datF), (y44.2.2.2.2.2.2.2.2.2.2.2.2.1.map dat0), y44.2.2.2.2.2.2.2.2.2.2.2.2.2))) | none => none) | none => none) else none) | _ => none) | none => none) else none) | none => none) | none => none) | none => none) else none) | false => (ke (.inr (u18.1, u18.2.1, u18.2.2.1, u18.2.2.2.1, u18.2.2.2.2.2.2.1, u18.2.2.2.2.2.2.2.1, (u18.2.2.2.2.2.2.2.2.1.map datF), (u18.2.2.2.2.2.2.2.2.2.1.map dat0), u18.2.2.2.2.2.2.2.2.2.2))))
abbrev znW (N : Nat) (x : qL × qL × Int × Nat × Int × qL × qL × Nat × qA × qA × Nat × Nat) : Option ((qL × qL × qL × Int × Int × Nat × qL × Nat × qA × qA × Nat × Nat) ⊕ (qL × qL × Int × Nat × qL × Nat × qA × qA × Nat × Nat)) := (Zu N).L N x
def zdP (N : Nat) : FSpec where
 X := qL × qL × Int
 Y := qL × qL × Int
 ash := [[some 1], [some 25], [none]]
 S := ⟨[[some 1], [some 1], [none]], [], [], [], []⟩
 pat := fun a b => zk a fun v1 c2 => jg v1 fun c3 => zk c3 fun c4 c5 => Z3 1 c4 fun a0 => zQ c5 <| zk c2 fun v6 c7 => Z3 25 v6 fun a1 => zk c7 fun v8 c9 => jQ .i64 v8 fun a2 => zQ c9 <| zQ b <| some (a0, a1, a2)
 args := fun x => [(AV.agg [(AV.list 1 x.1 none)]), (AV.list 25 x.2.1 none), (AV.v (.int .i64 x.2.2))]
 ret := fun y => ⟨(AV.tup [(AV.agg [(AV.list 1 y.1 none)]), (AV.list 1 y.2.1 none), (AV.v (.int .i64 y.2.2))]), [], none, [], [], [], none⟩
 t := fun x α k => (match zrs N x.1 with | some y1 => (match (!y1) with | true => (k (([] : qL), ([] : qL), 1)) | false => (match zc3 N x.2.1 with | some y2 => (match (!y2) with | true => (k (([] : qL), ([] : qL), 1)) | false => (match (decide (x.2.2 < 0)) with | true => (k (([] : qL), ([] : qL), 2)) | false => (match (decide (x.2.2 > 18014398509481984)) with | true => (k (([] : qL), ([] : qL), 2)) | false => (match zvJ N (x.1, x.2.2) with | some y3 => (match (!y3) with | true => (k (([] : qL), ([] : qL), 9)) | false => (match zgm N x.1 with | some y4 => (match znV N (x.1, x.2.1) with | some y5 => (match znW N (([] : qL), x.2.1, x.2.2, y5.1, 0, x.1, ([] : qL), y4.1, ((y4.2.1.map (datJ y4.2.2.1 y4.2.2.2)).map datF), ((y5.2.map dat0).map dat0), y4.2.2) with | some y52 => (match y52 with | .inl z53 => (k (z53.2.2.2.2.2.2.1, z53.2.2.1, z53.2.2.2.2.1)) | .inr z54 => (match zpm N (z54.1, z54.2.1, z54.2.2.1, z54.2.2.2.1, 0, z54.2.2.2.2.1, z54.2.2.2.2.2.1, (z54.2.2.2.2.2.2.2.1.map dat0), (z54.2.2.2.2.2.2.1.map dat0)) with | some y61 => (match (decide (((y61.2.2.1 : Nat) : Int) > 500)) with | true => (k (([] : qL), ([] : qL), 8)) | false => (if y61.2.2.1 * 1 <= y61.2.2.2.length then (k ((zK (y61.2.2.2.take (y61.2.2.1 * 1)) 1 y61.2.2.1), y61.1, 0)) else none)) | none => none)) | none => none) | none => none) | none => none)) | none => none)))) | none => none)) | none => none)
abbrev zvG (N : Nat) (x : qL × qL × Int) : Option (qL × qL × Int) := (zdP N).d x
def J8 (N : Nat) : List (Nat × LSpec) := [(18, Zu N), (30, jB N), (42, Zv N)]
def zbx : Code := Tryd.f31.body.getD .skip
theorem zqq (N : Nat) : Par (Zv N).b := by
 intro x α β kn ke kn' ke' r r' h h1 h2
 revert h
 dsimp only [Zv]
 (repeat' (first | (with_reducible refine ze ?_ ?_) | split)) <;> intro h <;> first | exact h1 _ h | exact h2 _ h | cases h
theorem zj4 (N : Nat) : ji (JT qP [40, 43, 100, 146]) (zq7 N) jj N (J8 N) 42 zbx (Zv N) := fun x α kn ke => by kernel_rfl
theorem zlz (N : Nat) : ZK qP jj N (J8 N) 42 (zc 42 zbx) :=
 zD (zL qP [40, 43, 100, 146]) (zi _) zl jj N (J8 N) 42 zbx (l := []) (by kernel_rfl) (by kernel_rfl) an (Zv N) rfl (fun s x hc h => by dsimp only [Zv] at h; exact zJ hc h (fun _ _ => rfl) rfl rfl rfl) (fun _ => rfl) (zj4 N) (zqq N)
theorem znc (N : Nat) : Par (jB N).b := by
 intro x α β kn ke kn' ke' r r' h h1 h2
 revert h
 dsimp only [jB]
 (repeat' (first | (with_reducible refine ze ?_ ?_) | split)) <;> intro h <;> first | exact h1 _ h | exact h2 _ h | cases h
theorem zlC (N : Nat) : zlY (JT qP [40, 43, 100, 146]) (zq7 N) jj N (J8 N) 30 zbx (jB N) := fun x α kn ke => by kernel_rfl
theorem zeU (N : Nat) : ZK qP jj N (J8 N) 30 (zc 30 zbx) :=
 jW (zL qP [40, 43, 100, 146]) (zi _) zl jj N (J8 N) 30 zbx (l := []) (by kernel_rfl) an (jB N) rfl (fun s x hc h => by dsimp only [jB] at h; exact za0 hc h (fun _ _ _ _ => rfl) rfl rfl) (zlC N) (znc N)
theorem zqd (N : Nat) : Par (Zu N).b := by
 intro x α β kn ke kn' ke' r r' h h1 h2
 revert h
 dsimp only [Zu]
 (repeat' (first | (with_reducible refine ze ?_ ?_) | split)) <;> intro h <;> first | exact h1 _ h | exact h2 _ h | cases h
theorem zkB (N : Nat) : ji (JT qP [40, 43, 100, 146]) (zq7 N) jj N (J8 N) 18 zbx (Zu N) := fun x α kn ke => by kernel_rfl
theorem zlx (N : Nat) : ZK qP jj N (J8 N) 18 (zc 18 zbx) :=
 zD (zL qP [40, 43, 100, 146]) (zi _) zl jj N (J8 N) 18 zbx (l := [(30, zc 30 zbx)]) (by kernel_rfl) (by kernel_rfl) (al (zeU N) an) (Zu N) rfl (fun s x hc h => by dsimp only [Zu] at h; exact za0 hc h (fun _ _ _ _ => rfl) rfl rfl) (fun _ => rfl) (zkB N) (zqd N)
theorem zq9 (N : Nat) : Zd (zdP N).t := by
 intro x α β k k' r r' h h1
 revert h
 dsimp only [zdP]
 (repeat' (first | (with_reducible refine ze ?_ ?_) | split)) <;> intro h <;> first | exact h1 _ h | cases h
theorem zsn (N : Nat) : Zh (JT qP [40, 43, 100, 146]) (zq7 N) jj (lam N (J8 N)) Tryd.f31 (zdP N) := fun x => by kernel_rfl
theorem zx0 (N : Nat) (a : List AV) (b : qL) (x : (zdP N).X) (h : (zdP N).pat a b = some x) : a = (zdP N).args x /\ b = (zdP N).bs x := by
 obtain ⟨v1, c2, rfl, g0⟩ := zb (show zk _ _ = some x from h)
 obtain ⟨c3, rfl, g1⟩ := zR g0; clear g0
 obtain ⟨c4, c5, rfl, g2⟩ := zb g1; clear g1
 obtain ⟨a0, rfl, g3⟩ := zr g2; clear g2
 obtain ⟨rfl, g4⟩ := zg g3; clear g3
 obtain ⟨v6, c7, rfl, g5⟩ := zb g4; clear g4
 obtain ⟨a1, rfl, g6⟩ := zr g5; clear g5
 obtain ⟨v8, c9, rfl, g7⟩ := zb g6; clear g6
 obtain ⟨a2, rfl, g8⟩ := zC g7; clear g7
 obtain ⟨rfl, g9⟩ := zg g8; clear g8
 obtain ⟨rfl, g10⟩ := zg g9; clear g9
 clear h
 cases g10
 exact ⟨rfl, rfl⟩
def zCG (N : Nat) : Ent qP := zy (zL qP [40, 43, 100, 146]) (zi _) zl 31 Tryd.f31 Tryd.func31 rfl jj (lam N (J8 N)) (zm (l := [(18, zc 18 zbx), (30, zc 30 zbx), (42, zc 42 zbx)]) (al (zlx N) (al (zeU N) (al (zlz N) an))) (by kernel_rfl)) (zdP N) (fun _ => ⟨rfl, rfl⟩) (zsn N) (zx0 N) (zq9 N)
end
end Go.Proofs.YthdgnfcbehcplaaDoor
end
section
namespace Go.Proofs.YthdgnfcbehcplaaDoor
noncomputable section
open Go.RowKit
set_option maxRecDepth 4000
set_option maxHeartbeats 4000000
def zw8 : Nat -> Keep × Keep := anL []
def zEd (N : Nat) : GamK := gam (P := qP) [zB2 N]
def zkP (N : Nat) : FSpec where
 X := RT0
 Y := Bool
 ash := [[none, none, none, none, none, none, none, none, none, some 9, none, none, none, none, none, none, none, none, none, none, none, none, none, none, none]]
 S := ⟨[[none]], [], [], [], []⟩
 pat := fun a b => rdA [.agg RK0] [] a b fun ⟨a0, _⟩ _ => a0
 args := fun x => [(AV.agg (zB x))]
 ret := fun y => ⟨(AV.v (.bool y)), [], none, [], [], [], none⟩
 t := fun x α k => (match zfm N ([(zB x)]) with | some y1 => (k y1) | none => none)
abbrev zlv (N : Nat) (x : RT0) : Option (Bool) := (zkP N).d x
theorem zuo (N : Nat) : Zd (zkP N).t := by
 intro x α β k k' r r' h h1
 revert h
 dsimp only [zkP]
 (repeat' (first | (with_reducible refine ze ?_ ?_) | split)) <;> intro h <;> first | exact h1 _ h | cases h
theorem zuf (N : Nat) : Zh (zn qP) (zEd N) zw8 (lam N []) Tryd.f72 (zkP N) := fun x => by kernel_rfl
def zBg (N : Nat) : Ent qP := zy (zd qP) (zi _) zl 72 Tryd.f72 Tryd.func72 rfl zw8 (lam N []) (zm (l := []) an (by kernel_rfl)) (zkP N) (fun _ => ⟨rfl, rfl⟩) (zuf N) (fun _ _ _ h => zu h (fun _ _ => rfl) (fun _ _ => rfl)) (zuo N)
def zbN : Nat -> Keep × Keep := anL [(4, qK [0, 5, 6] [] [], qK [0, 2] [] [])]
def zBA (N : Nat) : GamK := gam (P := qP) []
def zcP (N : Nat) : LSpec where
 X := ByteArray × Int × Int
 Y := (ByteArray × Bool) ⊕ (ByteArray)
 p := fun s => rdS 28 0 [(0, .str), (5, .int .i64), (6, .int .i64)] [] s fun ⟨a0, a1, a2, _⟩ _ => (a0, a1, a2)
 st := fun u4 => mkS 28 [(0, (AV.v (.string u4.1))), (5, (qI u4.2.1)), (6, (qI u4.2.2))] [] (zbN 4).1.toks 0
 out := fun y => match y with
  | .inl y => (.ret, mkS 28 [(0, (AV.v (.string y.1))), (2, (AV.v (.bool y.2)))] [] (zbN 4).2.toks 0)
  | .inr y => (.exit 0, mkS 28 [(0, (AV.v (.string y)))] [] (zbN 4).2.toks 0)
 b := fun u4 α kn ke => (match (decide (u4.2.2 < u4.2.1)) with | true => (if 0 <= u4.2.2 then (match u4.1[u4.2.2.toNat]? with | some c1 => (match (decide ((c1.toNat : Int) < 97)) with | true => (ke (.inl (u4.1, false))) | false => (if 0 <= u4.2.2 then (match u4.1[u4.2.2.toNat]? with | some c2 => (match (decide ((c2.toNat : Int) > 122)) with | true => (ke (.inl (u4.1, false))) | false => (kn (u4.1, u4.2.1, (i64 (u4.2.2 + 1))))) | none => none) else none)) | none => none) else none) | false => (ke (.inr u4.1)))
abbrev zz0 (N : Nat) (x : ByteArray × Int × Int) : Option ((ByteArray × Bool) ⊕ (ByteArray)) := (zcP N).L N x
def zmO (N : Nat) : FSpec where
 X := ByteArray
 Y := Bool
 ash := [[none]]
 S := ⟨[[none]], [], [], [], []⟩
 pat := fun a b => rdA [.str] [] a b fun ⟨a0, _⟩ _ => a0
 args := fun x => [(AV.v (.string x))]
 ret := fun y => ⟨(AV.v (.bool y)), [], none, [], [], [], none⟩
 t := fun x α k => (match zz0 N (x, (x.size : Int), 0) with | some y3 => (match y3 with | .inl z4 => (k z4.2) | .inr z5 => (match (decide ((z5.size : Int) >= 1)) with | true => (k (decide ((z5.size : Int) <= 16))) | false => (k false))) | none => none)
abbrev zqB (N : Nat) (x : ByteArray) : Option (Bool) := (zmO N).d x
def zgG (N : Nat) : List (Nat × LSpec) := [(4, zcP N)]
def ztm : Code := Tryd.f73.body.getD .skip
theorem zsH (N : Nat) : Par (zcP N).b := by
 intro x α β kn ke kn' ke' r r' h h1 h2
 revert h
 dsimp only [zcP]
 (repeat' (first | (with_reducible refine ze ?_ ?_) | split)) <;> intro h <;> first | exact h1 _ h | exact h2 _ h | cases h
theorem zqk (N : Nat) : ji (zn qP) (zBA N) zbN N (zgG N) 4 ztm (zcP N) := fun x α kn ke => by kernel_rfl
theorem zml (N : Nat) : ZK qP zbN N (zgG N) 4 (zc 4 ztm) :=
 zD (zd qP) (zi _) zl zbN N (zgG N) 4 ztm (l := []) (by kernel_rfl) (by kernel_rfl) an (zcP N) rfl (fun s x hc h => by dsimp only [zcP] at h; exact zJ hc h (fun _ _ => rfl) rfl rfl rfl) (fun _ => rfl) (zqk N) (zsH N)
theorem zrp (N : Nat) : Zd (zmO N).t := by
 intro x α β k k' r r' h h1
 revert h
 dsimp only [zmO]
 (repeat' (first | (with_reducible refine ze ?_ ?_) | split)) <;> intro h <;> first | exact h1 _ h | cases h
theorem zt5 (N : Nat) : Zh (zn qP) (zBA N) zbN (lam N (zgG N)) Tryd.f73 (zmO N) := fun x => by kernel_rfl
def zAp (N : Nat) : Ent qP := zy (zd qP) (zi _) zl 73 Tryd.f73 Tryd.func73 rfl zbN (lam N (zgG N)) (zm (l := [(4, zc 4 ztm)]) (al (zml N) an) (by kernel_rfl)) (zmO N) (fun _ => ⟨rfl, rfl⟩) (zt5 N) (fun _ _ _ h => zu h (fun _ _ => rfl) (fun _ _ => rfl)) (zrp N)
def zv2 : Nat -> Keep × Keep := anL []
def zDR (N : Nat) : GamK := gam (P := qP) [zBg N, zAp N]
def zkI (N : Nat) : FSpec where
 X := RT7 × Int × Int
 Y := Bool
 ash := [[none, none, none, none, none, none, none, none, none, none, none, none, none, some 9, none, none, none, none, none, none, none, none, none, none, none, none, none, none, none], [none], [none]]
 S := ⟨[[none]], [], [], [], []⟩
 pat := fun a b => rdA [.agg RK7, .int .i64, .int .i64] [] a b fun ⟨a0, a1, a2, _⟩ _ => (a0, a1, a2)
 args := fun x => [(AV.agg (zN x.1)), (AV.v (.int .i64 x.2.1)), (AV.v (.int .i64 x.2.2))]
 ret := fun y => ⟨(AV.v (.bool y)), [], none, [], [], [], none⟩
 t := fun x α k => (match (decide (x.1.1 < 1)) with | true => (k false) | false => (match (decide (x.1.1 > 6)) with | true => (k false) | false => (match (decide (x.1.2.1 < 0)) with | true => (k false) | false => (match (decide (x.1.2.1 > 18014398509481984)) with | true => (k false) | false => (match zlv N (zx x.1) with | some y1 => (match (!y1) with | true => (k false) | false => (if 0 <= x.1.1 /\ x.1.1 < 7 then (match ((gtab3.map AV.v).drop (x.1.1.toNat * 1))[0]? with | some x2 => (match x2 with | .v (.bool b3) => (match b3 with | true => (match (!(x.1.2.2.1.toList == (⟨#[]⟩ : ByteArray).toList)) with | true => (k false) | false => (if 0 <= x.1.1 /\ x.1.1 < 7 then (match ((gtab3.map AV.v).drop (x.1.1.toNat * 1))[0]? with | some x4 => (match x4 with | .v (.bool b5) => (match (!b5) with | true => (match zqB N x.1.2.2.1 with | some y6 => (match (!y6) with | true => (k false) | false => (match (x.1.1 == 5) with | true => (match (decide (x.1.2.2.2.1 >= 0)) with | true => (match (decide (x.1.2.2.2.1 < x.2.2)) with | true => (k (x.1.2.2.2.1 != x.2.1)) | false => (k false)) | false => (k false)) | false => (k (x.1.2.2.2.1 == 0)))) | none => none) | false => (match (x.1.1 == 5) with | true => (match (decide (x.1.2.2.2.1 >= 0)) with | true => (match (decide (x.1.2.2.2.1 < x.2.2)) with | true => (k (x.1.2.2.2.1 != x.2.1)) | false => (k false)) | false => (k false)) | false => (k (x.1.2.2.2.1 == 0)))) | _ => none) | none => none) else none)) | false => (if 0 <= x.1.1 /\ x.1.1 < 7 then (match ((gtab3.map AV.v).drop (x.1.1.toNat * 1))[0]? with | some x7 => (match x7 with | .v (.bool b8) => (match (!b8) with | true => (match zqB N x.1.2.2.1 with | some y9 => (match (!y9) with | true => (k false) | false => (match (x.1.1 == 5) with | true => (match (decide (x.1.2.2.2.1 >= 0)) with | true => (match (decide (x.1.2.2.2.1 < x.2.2)) with | true => (k (x.1.2.2.2.1 != x.2.1)) | false => (k false)) | false => (k false)) | false => (k (x.1.2.2.2.1 == 0)))) | none => none) | false => (match (x.1.1 == 5) with | true => (match (decide (x.1.2.2.2.1 >= 0)) with | true => (match (decide (x.1.2.2.2.1 < x.2.2)) with | true => (k (x.1.2.2.2.1 != x.2.1)) | false => (k false)) | false => (k false)) | false => (k (x.1.2.2.2.1 == 0)))) | _ => none) | none => none) else none)) | _ => none) | none => none) else none)) | none => none)))))
abbrev zzn (N : Nat) (x : RT7 × Int × Int) : Option (Bool) := (zkI N).d x
theorem ztn (N : Nat) : Zd (zkI N).t := by
 intro x α β k k' r r' h h1
 revert h
 dsimp only [zkI]
 (repeat' (first | (with_reducible refine ze ?_ ?_) | split)) <;> intro h <;> first | exact h1 _ h | cases h
theorem zsS (N : Nat) : Zh (zn qP) (zDR N) zv2 (lam N []) Tryd.f48 (zkI N) := fun x => by kernel_rfl
def zDk (N : Nat) : Ent qP := zy (zd qP) (zi _) zl 48 Tryd.f48 Tryd.func48 rfl zv2 (lam N []) (zm (l := []) an (by kernel_rfl)) (zkI N) (fun _ => ⟨rfl, rfl⟩) (zsS N) (fun _ _ _ h => zu h (fun _ _ => rfl) (fun _ _ => rfl)) (ztn N)
def zwV : Nat -> Keep × Keep := anL []
def zEs (N : Nat) : GamK := gam (P := qP) [zDW N]
def zkv (N : Nat) : FSpec where
 X := RT0 × RT0
 Y := Bool
 ash := [[none, none, none, none, none, none, none, none, none, some 9, none, none, none, none, none, none, none, none, none, none, none, none, none, none, none], [none, none, none, none, none, none, none, none, none, some 9, none, none, none, none, none, none, none, none, none, none, none, none, none, none, none]]
 S := ⟨[[none]], [], [], [], []⟩
 pat := fun a b => rdA [.agg RK0, .agg RK0] [] a b fun ⟨a0, a1, _⟩ _ => (a0, a1)
 args := fun x => [(AV.agg (zB x.1)), (AV.agg (zB x.2))]
 ret := fun y => ⟨(AV.v (.bool y)), [], none, [], [], [], none⟩
 t := fun x α k => (match zBo N ([(zB x.1)], [(zB x.2)]) with | some y1 => (k y1) | none => none)
abbrev zlO (N : Nat) (x : RT0 × RT0) : Option (Bool) := (zkv N).d x
theorem ztd (N : Nat) : Zd (zkv N).t := by
 intro x α β k k' r r' h h1
 revert h
 dsimp only [zkv]
 (repeat' (first | (with_reducible refine ze ?_ ?_) | split)) <;> intro h <;> first | exact h1 _ h | cases h
theorem zq2 (N : Nat) : Zh (zn qP) (zEs N) zwV (lam N []) Tryd.f38 (zkv N) := fun x => by kernel_rfl
def zBO (N : Nat) : Ent qP := zy (zd qP) (zi _) zl 38 Tryd.f38 Tryd.func38 rfl zwV (lam N []) (zm (l := []) an (by kernel_rfl)) (zkv N) (fun _ => ⟨rfl, rfl⟩) (zq2 N) (fun _ _ _ h => zu h (fun _ _ => rfl) (fun _ _ => rfl)) (ztd N)
def Je : Nat -> Keep × Keep := anL [(8, ⟨[1, 14, 15], [], [1], [(13, 1)], [], [], [], [], false, none, []⟩, qK [2] [] []), (21, ⟨[1, 3, 4, 14, 15, 40, 41], [], [1, 4], [(13, 1), (39, 29)], [], [], [], [], false, none, []⟩, ⟨[1, 2, 14, 15], [], [1], [(13, 1)], [], [], [], [], false, none, []⟩)]
def zzt (N : Nat) : GamK := gam (P := qP) [zDk N, zBO N]
def ZS (N : Nat) : LSpec where
 X := qL × qL × Int × Int × Int × Int × Int × qL × qL
 Y := (qL × Bool × Int × Int × qL) ⊕ (qL × Int × Int × qL)
 p := fun s => rdS 92 0 [(13, .lst 1), (39, .lst 29), (1, .ptr 1 0), (3, .int .i64), (4, .ptr 4 0), (14, .int .i64), (15, .int .i64), (40, .int .i64), (41, .int .i64)] [(1, .cells [.lst 1]), (4, .cells [.lst 29])] s fun ⟨a0, a1, _, a2, _, a3, a4, a5, a6, _⟩ ⟨⟨a7, _⟩, ⟨a8, _⟩, _⟩ => (a0, a1, a2, a3, a4, a5, a6, a7, a8)
 st := fun u21 => mkS 92 [(13, (AV.list 1 u21.1 none)), (39, (AV.list 29 u21.2.1 none)), (1, (AV.ptr 1 0)), (3, (qI u21.2.2.1)), (4, (AV.ptr 4 0)), (14, (qI u21.2.2.2.1)), (15, (qI u21.2.2.2.2.1)), (40, (qI u21.2.2.2.2.2.1)), (41, (qI u21.2.2.2.2.2.2.1))] [(1, [(AV.list 1 u21.2.2.2.2.2.2.2.1 none)]), (4, [(AV.list 29 u21.2.2.2.2.2.2.2.2 none)])] (Je 21).1.toks 0
 out := fun y => match y with
  | .inl y => (.ret, mkS 92 [(13, (AV.list 1 y.1 none)), (1, (AV.ptr 1 0)), (2, (AV.v (.bool y.2.1))), (14, (qI y.2.2.1)), (15, (qI y.2.2.2.1))] [(1, [(AV.list 1 y.2.2.2.2 none)])] (Je 21).2.toks 0)
  | .inr y => (.exit 2, mkS 92 [(13, (AV.list 1 y.1 none)), (1, (AV.ptr 1 0)), (14, (qI y.2.1)), (15, (qI y.2.2.1))] [(1, [(AV.list 1 y.2.2.2 none)])] (Je 21).2.toks 0)
 b := fun u21 α kn ke => (match (decide (u21.2.2.2.2.2.2.1 < u21.2.2.2.2.2.1)) with | true => (if 0 <= u21.2.2.2.2.2.2.1 then (match u21.2.1[u21.2.2.2.2.2.2.1.toNat]? with | some c17 => (match zlq c17 with | some e18 => (match zzn N (e18, u21.2.2.1, (u21.2.2.2.2.2.2.2.1.length : Int)) with | some y19 => (match (!y19) with | true => (ke (.inl (u21.1, false, u21.2.2.2.1, u21.2.2.2.2.1, u21.2.2.2.2.2.2.2.1))) | false => (match (u21.2.2.2.2.2.2.1 == 0) with | true => (kn (u21.1, u21.2.1, u21.2.2.1, u21.2.2.2.1, u21.2.2.2.2.1, u21.2.2.2.2.2.1, (i64 (u21.2.2.2.2.2.2.1 + 1)), u21.2.2.2.2.2.2.2)) | false => (if 0 <= (i64 (u21.2.2.2.2.2.2.1 - 1)) then (match u21.2.2.2.2.2.2.2.2[(i64 (u21.2.2.2.2.2.2.1 - 1)).toNat]? with | some c20 => (match zlq c20 with | some e21 => (match (decide (e18.2.1 < e21.2.1)) with | true => (ke (.inl (u21.1, false, u21.2.2.2.1, u21.2.2.2.2.1, u21.2.2.2.2.2.2.2.1))) | false => (if 0 <= e18.1 /\ e18.1 < 7 then (if 0 <= e21.1 /\ e21.1 < 7 then (match (((gtab1.map AV.v).drop (e18.1.toNat * 7)).drop (e21.1.toNat * 1))[0]? with | some x22 => (match x22 with | .v (.bool b23) => (match (!b23) with | true => (ke (.inl (u21.1, false, u21.2.2.2.1, u21.2.2.2.2.1, u21.2.2.2.2.2.2.2.1))) | false => (if 0 <= e18.1 /\ e18.1 < 7 then (match ((gtab2.map AV.v).drop (e18.1.toNat * 1))[0]? with | some x24 => (match x24 with | .v (.bool b25) => (match b25 with | true => (match zlO N ((zx e18), (zx e21)) with | some y26 => (match (!y26) with | true => (ke (.inl (u21.1, false, u21.2.2.2.1, u21.2.2.2.2.1, u21.2.2.2.2.2.2.2.1))) | false => (kn (u21.1, u21.2.1, u21.2.2.1, u21.2.2.2.1, u21.2.2.2.2.1, u21.2.2.2.2.2.1, (i64 (u21.2.2.2.2.2.2.1 + 1)), u21.2.2.2.2.2.2.2))) | none => none) | false => (kn (u21.1, u21.2.1, u21.2.2.1, u21.2.2.2.1, u21.2.2.2.2.1, u21.2.2.2.2.2.1, (i64 (u21.2.2.2.2.2.2.1 + 1)), u21.2.2.2.2.2.2.2))) | _ => none) | none => none) else none)) | _ => none) | none => none) else none) else none)) | none => none) | none => none) else none))) | none => none) | none => none) | none => none) else none) | false => (ke (.inr (u21.1, u21.2.2.2.1, u21.2.2.2.2.1, u21.2.2.2.2.2.2.2.1))))
abbrev zpf (N : Nat) (x : qL × qL × Int × Int × Int × Int × Int × qL × qL) : Option ((qL × Bool × Int × Int × qL) ⊕ (qL × Int × Int × qL)) := (ZS N).L N x
def jI (N : Nat) : LSpec where
 X := qL × Int × Int × qL
 Y := (Bool) ⊕ (Unit)
 p := fun s => rdS 92 0 [(13, .lst 1), (1, .ptr 1 0), (14, .int .i64), (15, .int .i64)] [(1, .cells [.lst 1])] s fun ⟨a0, _, a1, a2, _⟩ ⟨⟨a3, _⟩, _⟩ => (a0, a1, a2, a3)
 st := fun u8 => mkS 92 [(13, (AV.list 1 u8.1 none)), (1, (AV.ptr 1 0)), (14, (qI u8.2.1)), (15, (qI u8.2.2.1))] [(1, [(AV.list 1 u8.2.2.2 none)])] (Je 8).1.toks 0
 out := fun y => match y with
  | .inl y => (.ret, mkS 92 [(2, (AV.v (.bool y)))] [] (Je 8).2.toks 0)
  | .inr y => (.exit 0, mkS 92 [] [] (Je 8).2.toks 0)
 b := fun u8 α kn ke => (match (decide (u8.2.2.1 < u8.2.1)) with | true => (if 0 <= u8.2.2.1 then (match u8.1[u8.2.2.1.toNat]? with | some c1 => (match zfU c1 with | some e2 => (match (decide ((e2.1.length : Int) < 1)) with | true => (ke (.inl false)) | false => (match (decide ((e2.1.length : Int) > 100)) with | true => (ke (.inl false)) | false => (if 0 <= (0 : Int) then (match e2.1[(0 : Int).toNat]? with | some c3 => (match (c3.drop 0)[0]? with | some x4 => (match x4 with | .v (.int q6 n5) => (if q6 = .i64 then (match (n5 != 1) with | true => (ke (.inl false)) | false => (match zpf N (u8.1, e2.1, u8.2.2.1, u8.2.1, u8.2.2.1, (e2.1.length : Int), 0, u8.2.2.2, e2.1) with | some y27 => (match y27 with | .inl z28 => (ke (.inl z28.2.1)) | .inr z29 => (kn (z29.1, z29.2.1, (i64 (z29.2.2.1 + 1)), z29.2.2.2))) | none => none)) else none) | _ => none) | none => none) | none => none) else none))) | none => none) | none => none) else none) | false => (ke (.inr ())))
abbrev zxe (N : Nat) (x : qL × Int × Int × qL) : Option ((Bool) ⊕ (Unit)) := (jI N).L N x
def zd4 (N : Nat) : FSpec where
 X := qL
 Y := Bool
 ash := [[some 1]]
 S := ⟨[[none]], [], [], [], []⟩
 pat := fun a b => zk a fun v1 c2 => jg v1 fun c3 => zk c3 fun c4 c5 => Z3 1 c4 fun a0 => zQ c5 <| zQ c2 <| zQ b <| some a0
 args := fun x => [(AV.agg [(AV.list 1 x none)])]
 ret := fun y => ⟨(AV.v (.bool y)), [], none, [], [], [], none⟩
 t := fun x α k => (match (decide ((x.length : Int) > 500)) with | true => (k false) | false => (match zxe N (x, (x.length : Int), 0, x) with | some y30 => (match y30 with | .inl z31 => (k z31) | .inr z32 => (k true)) | none => none))
abbrev zno (N : Nat) (x : qL) : Option (Bool) := (zd4 N).d x
def zbJ (N : Nat) : List (Nat × LSpec) := [(8, jI N), (21, ZS N)]
def zfi : Code := Tryd.f14.body.getD .skip
theorem zoF (N : Nat) : Par (ZS N).b := by
 intro x α β kn ke kn' ke' r r' h h1 h2
 revert h
 dsimp only [ZS]
 (repeat' (first | (with_reducible refine ze ?_ ?_) | split)) <;> intro h <;> first | exact h1 _ h | exact h2 _ h | cases h
theorem zjR (N : Nat) : ji (zn qP) (zzt N) Je N (zbJ N) 21 zfi (ZS N) := fun x α kn ke => by kernel_rfl
theorem zeK (N : Nat) : ZK qP Je N (zbJ N) 21 (zc 21 zfi) :=
 zD (zd qP) (zi _) zl Je N (zbJ N) 21 zfi (l := []) (by kernel_rfl) (by kernel_rfl) an (ZS N) rfl (fun s x hc h => by dsimp only [ZS] at h; exact zJ hc h (fun _ _ => rfl) rfl rfl rfl) (fun _ => rfl) (zjR N) (zoF N)
theorem zrS (N : Nat) : Par (jI N).b := by
 intro x α β kn ke kn' ke' r r' h h1 h2
 revert h
 dsimp only [jI]
 (repeat' (first | (with_reducible refine ze ?_ ?_) | split)) <;> intro h <;> first | exact h1 _ h | exact h2 _ h | cases h
theorem zne (N : Nat) : ji (zn qP) (zzt N) Je N (zbJ N) 8 zfi (jI N) := fun x α kn ke => by kernel_rfl
theorem zns (N : Nat) : ZK qP Je N (zbJ N) 8 (zc 8 zfi) :=
 zD (zd qP) (zi _) zl Je N (zbJ N) 8 zfi (l := [(21, zc 21 zfi)]) (by kernel_rfl) (by kernel_rfl) (al (zeK N) an) (jI N) rfl (fun s x hc h => by dsimp only [jI] at h; exact zJ hc h (fun _ _ => rfl) rfl rfl rfl) (fun _ => rfl) (zne N) (zrS N)
theorem zri (N : Nat) : Zd (zd4 N).t := by
 intro x α β k k' r r' h h1
 revert h
 dsimp only [zd4]
 (repeat' (first | (with_reducible refine ze ?_ ?_) | split)) <;> intro h <;> first | exact h1 _ h | cases h
theorem zvf (N : Nat) : Zh (zn qP) (zzt N) Je (lam N (zbJ N)) Tryd.f14 (zd4 N) := fun x => by kernel_rfl
theorem zxB (N : Nat) (a : List AV) (b : qL) (x : (zd4 N).X) (h : (zd4 N).pat a b = some x) : a = (zd4 N).args x /\ b = (zd4 N).bs x := by
 obtain ⟨v1, c2, rfl, g0⟩ := zb (show zk _ _ = some x from h)
 obtain ⟨c3, rfl, g1⟩ := zR g0; clear g0
 obtain ⟨c4, c5, rfl, g2⟩ := zb g1; clear g1
 obtain ⟨a0, rfl, g3⟩ := zr g2; clear g2
 obtain ⟨rfl, g4⟩ := zg g3; clear g3
 obtain ⟨rfl, g5⟩ := zg g4; clear g4
 obtain ⟨rfl, g6⟩ := zg g5; clear g5
 clear h
 cases g6
 exact ⟨rfl, rfl⟩
def zzm (N : Nat) : Ent qP := zy (zd qP) (zi _) zl 14 Tryd.f14 Tryd.func14 rfl Je (lam N (zbJ N)) (zm (l := [(8, zc 8 zfi), (21, zc 21 zfi)]) (al (zns N) (al (zeK N) an)) (by kernel_rfl)) (zd4 N) (fun _ => ⟨rfl, rfl⟩) (zvf N) (zxB N) (zri N)
def JL : Nat -> Keep × Keep := anL [(5, ⟨[3, 10, 11], [], [], [(9, 1)], [], [], [], [], false, none, []⟩, qK [3] [] []), (14, ⟨[3, 10, 11, 17, 18], [], [], [(9, 1), (16, 29)], [], [], [], [], false, none, []⟩, ⟨[3, 10, 11], [], [], [(9, 1)], [], [], [], [], false, none, []⟩)]
def zzj (N : Nat) : GamK := gam (P := qP) []
def ZR (N : Nat) : LSpec where
 X := qL × qL × Int × Int × Int × Int × Int
 Y := (qL × Int × Int × Int)
 p := fun s => rdS 29 0 [(9, .lst 1), (16, .lst 29), (3, .int .i64), (10, .int .i64), (11, .int .i64), (17, .int .i64), (18, .int .i64)] [] s fun ⟨a0, a1, a2, a3, a4, a5, a6, _⟩ _ => (a0, a1, a2, a3, a4, a5, a6)
 st := fun u14 => mkS 29 [(9, (AV.list 1 u14.1 none)), (16, (AV.list 29 u14.2.1 none)), (3, (qI u14.2.2.1)), (10, (qI u14.2.2.2.1)), (11, (qI u14.2.2.2.2.1)), (17, (qI u14.2.2.2.2.2.1)), (18, (qI u14.2.2.2.2.2.2))] [] (JL 14).1.toks 0
 out := fun y => (.exit 2, mkS 29 [(9, (AV.list 1 y.1 none)), (3, (qI y.2.1)), (10, (qI y.2.2.1)), (11, (qI y.2.2.2))] [] (JL 14).2.toks 0)
 b := fun u14 α kn ke => (match (decide (u14.2.2.2.2.2.2 < u14.2.2.2.2.2.1)) with | true => (if 0 <= u14.2.2.2.2.2.2 then (match u14.2.1[u14.2.2.2.2.2.2.toNat]? with | some c3 => (match zlq c3 with | some e4 => (kn (u14.1, u14.2.1, (if e4.2.1 > u14.2.2.1 then e4.2.1 else u14.2.2.1), u14.2.2.2.1, u14.2.2.2.2.1, u14.2.2.2.2.2.1, (i64 (u14.2.2.2.2.2.2 + 1)))) | none => none) | none => none) else none) | false => (ke (u14.1, u14.2.2.1, u14.2.2.2.1, u14.2.2.2.2.1)))
abbrev znn (N : Nat) (x : qL × qL × Int × Int × Int × Int × Int) : Option ((qL × Int × Int × Int)) := (ZR N).L N x
def jL (N : Nat) : LSpec where
 X := qL × Int × Int × Int
 Y := (Int)
 p := fun s => rdS 29 0 [(9, .lst 1), (3, .int .i64), (10, .int .i64), (11, .int .i64)] [] s fun ⟨a0, a1, a2, a3, _⟩ _ => (a0, a1, a2, a3)
 st := fun u5 => mkS 29 [(9, (AV.list 1 u5.1 none)), (3, (qI u5.2.1)), (10, (qI u5.2.2.1)), (11, (qI u5.2.2.2))] [] (JL 5).1.toks 0
 out := fun y => (.exit 0, mkS 29 [(3, (qI y))] [] (JL 5).2.toks 0)
 b := fun u5 α kn ke => (match (decide (u5.2.2.2 < u5.2.2.1)) with | true => (if 0 <= u5.2.2.2 then (match u5.1[u5.2.2.2.toNat]? with | some c1 => (match zfU c1 with | some e2 => (match znn N (u5.1, e2.1, u5.2.1, u5.2.2.1, u5.2.2.2, (e2.1.length : Int), 0) with | some y5 => (kn (y5.1, y5.2.1, y5.2.2.1, (i64 (y5.2.2.2 + 1)))) | none => none) | none => none) | none => none) else none) | false => (ke u5.2.1))
abbrev zwd (N : Nat) (x : qL × Int × Int × Int) : Option ((Int)) := (jL N).L N x
def zdQ (N : Nat) : FSpec where
 X := qL
 Y := Int
 ash := [[some 1]]
 S := ⟨[[none]], [], [], [], []⟩
 pat := fun a b => zk a fun v1 c2 => jg v1 fun c3 => zk c3 fun c4 c5 => Z3 1 c4 fun a0 => zQ c5 <| zQ c2 <| zQ b <| some a0
 args := fun x => [(AV.agg [(AV.list 1 x none)])]
 ret := fun y => ⟨(AV.v (.int .i64 y)), [], none, [], [], [], none⟩
 t := fun x α k => (match zwd N (x, 0, (x.length : Int), 0) with | some y6 => (k y6) | none => none)
abbrev zBH (N : Nat) (x : qL) : Option (Int) := (zdQ N).d x
def zb1 (N : Nat) : List (Nat × LSpec) := [(5, jL N), (14, ZR N)]
def zfp : Code := Tryd.f64.body.getD .skip
theorem zmy (N : Nat) : Par (ZR N).b := by
 intro x α β kn ke kn' ke' r r' h h1 h2
 revert h
 dsimp only [ZR]
 (repeat' (first | (with_reducible refine ze ?_ ?_) | split)) <;> intro h <;> first | exact h1 _ h | exact h2 _ h | cases h
theorem zli (N : Nat) : ji (zn qP) (zzj N) JL N (zb1 N) 14 zfp (ZR N) := fun x α kn ke => by kernel_rfl
theorem zeD (N : Nat) : ZK qP JL N (zb1 N) 14 (zc 14 zfp) :=
 zD (zd qP) (zi _) zl JL N (zb1 N) 14 zfp (l := []) (by kernel_rfl) (by kernel_rfl) an (ZR N) rfl (fun s x hc h => by dsimp only [ZR] at h; exact zJ hc h (fun _ _ => rfl) rfl rfl rfl) (fun _ => rfl) (zli N) (zmy N)
theorem zue (N : Nat) : Par (jL N).b := by
 intro x α β kn ke kn' ke' r r' h h1 h2
 revert h
 dsimp only [jL]
 (repeat' (first | (with_reducible refine ze ?_ ?_) | split)) <;> intro h <;> first | exact h1 _ h | exact h2 _ h | cases h
theorem zm3 (N : Nat) : ji (zn qP) (zzj N) JL N (zb1 N) 5 zfp (jL N) := fun x α kn ke => by kernel_rfl
theorem znj (N : Nat) : ZK qP JL N (zb1 N) 5 (zc 5 zfp) :=
 zD (zd qP) (zi _) zl JL N (zb1 N) 5 zfp (l := [(14, zc 14 zfp)]) (by kernel_rfl) (by kernel_rfl) (al (zeD N) an) (jL N) rfl (fun s x hc h => by dsimp only [jL] at h; exact zJ hc h (fun _ _ => rfl) rfl rfl rfl) (fun _ => rfl) (zm3 N) (zue N)
theorem zsl (N : Nat) : Zd (zdQ N).t := by
 intro x α β k k' r r' h h1
 revert h
 dsimp only [zdQ]
 (repeat' (first | (with_reducible refine ze ?_ ?_) | split)) <;> intro h <;> first | exact h1 _ h | cases h
theorem ztI (N : Nat) : Zh (zn qP) (zzj N) JL (lam N (zb1 N)) Tryd.f64 (zdQ N) := fun x => by kernel_rfl
theorem zzu (N : Nat) (a : List AV) (b : qL) (x : (zdQ N).X) (h : (zdQ N).pat a b = some x) : a = (zdQ N).args x /\ b = (zdQ N).bs x := by
 obtain ⟨v1, c2, rfl, g0⟩ := zb (show zk _ _ = some x from h)
 obtain ⟨c3, rfl, g1⟩ := zR g0; clear g0
 obtain ⟨c4, c5, rfl, g2⟩ := zb g1; clear g1
 obtain ⟨a0, rfl, g3⟩ := zr g2; clear g2
 obtain ⟨rfl, g4⟩ := zg g3; clear g3
 obtain ⟨rfl, g5⟩ := zg g4; clear g4
 obtain ⟨rfl, g6⟩ := zg g5; clear g5
 clear h
 cases g6
 exact ⟨rfl, rfl⟩
def zDa (N : Nat) : Ent qP := zy (zd qP) (zi _) zl 64 Tryd.f64 Tryd.func64 rfl JL (lam N (zb1 N)) (zm (l := [(5, zc 5 zfp), (14, zc 14 zfp)]) (al (znj N) (al (zeD N) an)) (by kernel_rfl)) (zdQ N) (fun _ => ⟨rfl, rfl⟩) (ztI N) (zzu N) (zsl N)
def zwa : Nat -> Keep × Keep := anL []
def zC2 (N : Nat) : GamK := gam (P := qP) [zDa N]
def zea (N : Nat) : FSpec where
 X := qL × Int
 Y := Int
 ash := [[some 1], [none]]
 S := ⟨[[none]], [], [], [], []⟩
 pat := fun a b => zk a fun v1 c2 => jg v1 fun c3 => zk c3 fun c4 c5 => Z3 1 c4 fun a0 => zQ c5 <| zk c2 fun v6 c7 => jQ .i64 v6 fun a1 => zQ c7 <| zQ b <| some (a0, a1)
 args := fun x => [(AV.agg [(AV.list 1 x.1 none)]), (AV.v (.int .i64 x.2))]
 ret := fun y => ⟨(AV.v (.int .i64 y)), [], none, [], [], [], none⟩
 t := fun x α k => (match (decide (x.2 < 0)) with | true => (k 2) | false => (match (decide (x.2 > 18014398509481984)) with | true => (k 2) | false => (match zBH N x.1 with | some y1 => (match (decide (x.2 < y1)) with | true => (k 9) | false => (k 0)) | none => none)))
abbrev ztU (N : Nat) (x : qL × Int) : Option (Int) := (zea N).d x
theorem zsC (N : Nat) : Zd (zea N).t := by
 intro x α β k k' r r' h h1
 revert h
 dsimp only [zea]
 (repeat' (first | (with_reducible refine ze ?_ ?_) | split)) <;> intro h <;> first | exact h1 _ h | cases h
theorem zuu (N : Nat) : Zh (zn qP) (zC2 N) zwa (lam N []) Tryd.f34 (zea N) := fun x => by kernel_rfl
theorem zyA (N : Nat) (a : List AV) (b : qL) (x : (zea N).X) (h : (zea N).pat a b = some x) : a = (zea N).args x /\ b = (zea N).bs x := by
 obtain ⟨v1, c2, rfl, g0⟩ := zb (show zk _ _ = some x from h)
 obtain ⟨c3, rfl, g1⟩ := zR g0; clear g0
 obtain ⟨c4, c5, rfl, g2⟩ := zb g1; clear g1
 obtain ⟨a0, rfl, g3⟩ := zr g2; clear g2
 obtain ⟨rfl, g4⟩ := zg g3; clear g3
 obtain ⟨v6, c7, rfl, g5⟩ := zb g4; clear g4
 obtain ⟨a1, rfl, g6⟩ := zC g5; clear g5
 obtain ⟨rfl, g7⟩ := zg g6; clear g6
 obtain ⟨rfl, g8⟩ := zg g7; clear g7
 clear h
 cases g8
 exact ⟨rfl, rfl⟩
def zB7 (N : Nat) : Ent qP := zy (zd qP) (zi _) zl 34 Tryd.f34 Tryd.func34 rfl zwa (lam N []) (zm (l := []) an (by kernel_rfl)) (zea N) (fun _ => ⟨rfl, rfl⟩) (zuu N) (zyA N) (zsC N)
def zw7 : Nat -> Keep × Keep := anL []
def zEo (N : Nat) : GamK := gam (P := qP) []
def zls (N : Nat) : FSpec where
 X := qL
 Y := qL
 ash := [[some 9]]
 S := ⟨[[some 2000009]], [], [], [], []⟩
 pat := fun a b => rdA [.lst 9] [] a b fun ⟨a0, _⟩ _ => a0
 args := fun x => [(AV.list 9 x none)]
 ret := fun y => ⟨(AV.list 9 y (some 2560000000)), [], none, [], [2560000000], [], none⟩
 t := fun x α k => (match x with | [] => (zvR (k ([] : qL)) (if (([] : qL).length + x.length) * 104 <= zh then (k (([] : qL) ++ x)) else none)) | _ :: _ => (if (([] : qL).length + x.length) * 104 <= zh then (k (([] : qL) ++ x)) else none))
abbrev zuv (N : Nat) (x : qL) : Option (qL) := (zls N).d x
theorem zts (N : Nat) : Zd (zls N).t := by
 intro x α β k k' r r' h h1
 revert h
 dsimp only [zls]
 (repeat' (first | (with_reducible refine ze ?_ ?_) | (with_reducible refine zq4 ?_ ?_) | split)) <;> intro h <;> first | exact h1 _ h | cases h
theorem zr2 (N : Nat) : Zh (zn qP) (zEo N) zw7 (lam N []) Tryd.f66 (zls N) := fun x => by kernel_rfl
def zCF (N : Nat) : Ent qP := zy (zd qP) (zi _) zl 66 Tryd.f66 Tryd.func66 rfl zw7 (lam N []) (zm (l := []) an (by kernel_rfl)) (zls N) (fun _ => ⟨rfl, rfl⟩) (zr2 N) (fun _ _ _ h => zu h (fun _ _ => rfl) (fun _ _ => rfl)) (zts N)
def zwG : Nat -> Keep × Keep := anL []
def zC8 (N : Nat) : GamK := gam (P := qP) [zCF N]
def zkd (N : Nat) : FSpec where
 X := RT0
 Y := RT0
 ash := [[none, none, none, none, none, none, none, none, none, some 9, none, none, none, none, none, none, none, none, none, none, none, none, none, none, none]]
 S := ⟨[[none, none, none, none, none, none, none, none, none, some 9, none, none, none, none, none, none, none, none, none, none, none, none, none, none, none]], [], [], [], []⟩
 pat := fun a b => rdA [.agg RK0] [] a b fun ⟨a0, _⟩ _ => a0
 args := fun x => [(AV.agg (zB x))]
 ret := fun y => ⟨(AV.agg (zB y)), [], none, [], [], [], none⟩
 t := fun x α k => (match zuv N x.2.2.2.2.2.2.2.2.2.1 with | some y1 => (k (x.1, x.2.1, x.2.2.1, x.2.2.2.1, x.2.2.2.2.1, x.2.2.2.2.2.1, x.2.2.2.2.2.2.1, x.2.2.2.2.2.2.2.1, x.2.2.2.2.2.2.2.2.1, y1, x.2.2.2.2.2.2.2.2.2.2)) | none => none)
abbrev zdq (N : Nat) (x : RT0) : Option (RT0) := (zkd N).d x
theorem zrx (N : Nat) : Zd (zkd N).t := by
 intro x α β k k' r r' h h1
 revert h
 dsimp only [zkd]
 (repeat' (first | (with_reducible refine ze ?_ ?_) | split)) <;> intro h <;> first | exact h1 _ h | cases h
theorem zr5 (N : Nat) : Zh (zn qP) (zC8 N) zwG (lam N []) Tryd.f39 (zkd N) := fun x => by kernel_rfl
def zvl (N : Nat) : Ent qP := zy (zd qP) (zi _) zl 39 Tryd.f39 Tryd.func39 rfl zwG (lam N []) (zm (l := []) an (by kernel_rfl)) (zkd N) (fun _ => ⟨rfl, rfl⟩) (zr5 N) (fun _ _ _ h => zu h (fun _ _ => rfl) (fun _ _ => rfl)) (zrx N)
def zwH : Nat -> Keep × Keep := anL []
def zD5 (N : Nat) : GamK := gam (P := qP) []
def zpM (N : Nat) : FSpec where
 X := Int × Int
 Y := Int × Int
 ash := [[none], [none]]
 S := ⟨[[none], [none]], [], [], [], []⟩
 pat := fun a b => rdA [.int .u64, .int .u64] [] a b fun ⟨a0, a1, _⟩ _ => (a0, a1)
 args := fun x => [(AV.v (.int .u64 x.1)), (AV.v (.int .u64 x.2))]
 ret := fun y => ⟨(AV.tup [(AV.v (.int .u64 y.1)), (AV.v (.int .u64 y.2))]), [], none, [], [], [], none⟩
 t := fun x α k => (k ((IntKind.u64.wrap ((IntKind.u64.wrap ((IntKind.u64.wrap ((shR .u64 x.1 (32 : Int)) * (shR .u64 x.2 (32 : Int)))) + (shR .u64 (IntKind.u64.wrap ((IntKind.u64.wrap ((shR .u64 x.1 (32 : Int)) * (zxb .u64 x.2 (4294967295 : Int)))) + (shR .u64 (IntKind.u64.wrap ((zxb .u64 x.1 (4294967295 : Int)) * (zxb .u64 x.2 (4294967295 : Int)))) (32 : Int)))) (32 : Int)))) + (shR .u64 (IntKind.u64.wrap ((zxb .u64 (IntKind.u64.wrap ((IntKind.u64.wrap ((shR .u64 x.1 (32 : Int)) * (zxb .u64 x.2 (4294967295 : Int)))) + (shR .u64 (IntKind.u64.wrap ((zxb .u64 x.1 (4294967295 : Int)) * (zxb .u64 x.2 (4294967295 : Int)))) (32 : Int)))) (4294967295 : Int)) + (IntKind.u64.wrap ((zxb .u64 x.1 (4294967295 : Int)) * (shR .u64 x.2 (32 : Int)))))) (32 : Int)))), (IntKind.u64.wrap (x.1 * x.2))))
abbrev zCQ (N : Nat) (x : Int × Int) : Option (Int × Int) := (zpM N).d x
theorem ztH (N : Nat) : Zd (zpM N).t := by
 intro x α β k k' r r' h h1
 revert h
 dsimp only [zpM]
 (repeat' (first | (with_reducible refine ze ?_ ?_) | split)) <;> intro h <;> first | exact h1 _ h | cases h
theorem zuF (N : Nat) : Zh (zn qP) (zD5 N) zwH (lam N []) Tryd.f93 (zpM N) := fun x => by kernel_rfl
def zDs (N : Nat) : Ent qP := zy (zd qP) (zi _) zl 93 Tryd.f93 Tryd.func93 rfl zwH (lam N []) (zm (l := []) an (by kernel_rfl)) (zpM N) (fun _ => ⟨rfl, rfl⟩) (zuF N) (fun _ _ _ h => zu h (fun _ _ => rfl) (fun _ _ => rfl)) (ztH N)
def zxd : Nat -> Keep × Keep := anL []
def zDA (N : Nat) : GamK := gam (P := qP) [zDs N]
def zm8 (N : Nat) : FSpec where
 X := Int × Int
 Y := Int × Int
 ash := [[none], [none]]
 S := ⟨[[none], [none]], [], [], [], []⟩
 pat := fun a b => rdA [.int .u64, .int .u64] [] a b fun ⟨a0, a1, _⟩ _ => (a0, a1)
 args := fun x => [(AV.v (.int .u64 x.1)), (AV.v (.int .u64 x.2))]
 ret := fun y => ⟨(AV.tup [(AV.v (.int .u64 y.1)), (AV.v (.int .u64 y.2))]), [], none, [], [], [], none⟩
 t := fun x α k => (match zCQ N x with | some y1 => (k y1) | none => none)
abbrev zCI (N : Nat) (x : Int × Int) : Option (Int × Int) := (zm8 N).d x
theorem zrz (N : Nat) : Zd (zm8 N).t := by
 intro x α β k k' r r' h h1
 revert h
 dsimp only [zm8]
 (repeat' (first | (with_reducible refine ze ?_ ?_) | split)) <;> intro h <;> first | exact h1 _ h | cases h
theorem ztE (N : Nat) : Zh (zn qP) (zDA N) zxd (lam N []) Tryd.f68 (zm8 N) := fun x => by kernel_rfl
def zCD (N : Nat) : Ent qP := zy (zd qP) (zi _) zl 68 Tryd.f68 Tryd.func68 rfl zxd (lam N []) (zm (l := []) an (by kernel_rfl)) (zm8 N) (fun _ => ⟨rfl, rfl⟩) (ztE N) (fun _ _ _ h => zu h (fun _ _ => rfl) (fun _ _ => rfl)) (zrz N)
def zwc : Nat -> Keep × Keep := anL []
def zCL (N : Nat) : GamK := gam (P := qP) []
def zfn (N : Nat) : FSpec where
 X := qL
 Y := RT7
 ash := [[some 29]]
 S := ⟨[[none, none, none, none, none, none, none, none, none, none, none, none, none, some 9, none, none, none, none, none, none, none, none, none, none, none, none, none, none, none]], [], [], [], []⟩
 pat := fun a b => zk a fun v1 c2 => jg v1 fun c3 => zk c3 fun c4 c5 => Z3 29 c4 fun a0 => zQ c5 <| zQ c2 <| zQ b <| some a0
 args := fun x => [(AV.agg [(AV.list 29 x none)])]
 ret := fun y => ⟨(AV.agg (zN y)), [], none, [], [], [], none⟩
 t := fun x α k => (if 0 <= (i64 ((x.length : Int) - 1)) then (match x[(i64 ((x.length : Int) - 1)).toNat]? with | some c1 => (match zlq c1 with | some e2 => (k e2) | none => none) | none => none) else none)
abbrev zoc (N : Nat) (x : qL) : Option (RT7) := (zfn N).d x
theorem zsj (N : Nat) : Zd (zfn N).t := by
 intro x α β k k' r r' h h1
 revert h
 dsimp only [zfn]
 (repeat' (first | (with_reducible refine ze ?_ ?_) | split)) <;> intro h <;> first | exact h1 _ h | cases h
theorem zvd (N : Nat) : Zh (zn qP) (zCL N) zwc (lam N []) Tryd.f36 (zfn N) := fun x => by kernel_rfl
theorem zxI (N : Nat) (a : List AV) (b : qL) (x : (zfn N).X) (h : (zfn N).pat a b = some x) : a = (zfn N).args x /\ b = (zfn N).bs x := by
 obtain ⟨v1, c2, rfl, g0⟩ := zb (show zk _ _ = some x from h)
 obtain ⟨c3, rfl, g1⟩ := zR g0; clear g0
 obtain ⟨c4, c5, rfl, g2⟩ := zb g1; clear g1
 obtain ⟨a0, rfl, g3⟩ := zr g2; clear g2
 obtain ⟨rfl, g4⟩ := zg g3; clear g3
 obtain ⟨rfl, g5⟩ := zg g4; clear g4
 obtain ⟨rfl, g6⟩ := zg g5; clear g5
 clear h
 cases g6
 exact ⟨rfl, rfl⟩
def zvo (N : Nat) : Ent qP := zy (zd qP) (zi _) zl 36 Tryd.f36 Tryd.func36 rfl zwc (lam N []) (zm (l := []) an (by kernel_rfl)) (zfn N) (fun _ => ⟨rfl, rfl⟩) (zvd N) (zxI N) (zsj N)
def zwF : Nat -> Keep × Keep := anL []
def zDI (N : Nat) : GamK := gam (P := qP) []
def zl7 (N : Nat) : FSpec where
 X := RT0 × RT0
 Y := Bool
 ash := [[none, none, none, none, none, none, none, none, none, some 9, none, none, none, none, none, none, none, none, none, none, none, none, none, none, none], [none, none, none, none, none, none, none, none, none, some 9, none, none, none, none, none, none, none, none, none, none, none, none, none, none, none]]
 S := ⟨[[none]], [], [], [], []⟩
 pat := fun a b => rdA [.agg RK0, .agg RK0] [] a b fun ⟨a0, a1, _⟩ _ => (a0, a1)
 args := fun x => [(AV.agg (zB x.1)), (AV.agg (zB x.2))]
 ret := fun y => ⟨(AV.v (.bool y)), [], none, [], [], [], none⟩
 t := fun x α k => (k (((x.1.1 == x.2.1) && ((x.1.2.1 == x.2.2.1) && ((x.1.2.2.1 == x.2.2.2.1) && ((x.1.2.2.2.1 == x.2.2.2.2.1) && true)))) && ((x.1.2.2.2.2.1 == x.2.2.2.2.2.1) && ((x.1.2.2.2.2.2.1 == x.2.2.2.2.2.2.1) && ((x.1.2.2.2.2.2.2.1 == x.2.2.2.2.2.2.2.1) && ((x.1.2.2.2.2.2.2.2.1 == x.2.2.2.2.2.2.2.2.1) && ((x.1.2.2.2.2.2.2.2.2.1 == x.2.2.2.2.2.2.2.2.2.1) && true)))))))
abbrev zyN (N : Nat) (x : RT0 × RT0) : Option (Bool) := (zl7 N).d x
theorem zta (N : Nat) : Zd (zl7 N).t := by
 intro x α β k k' r r' h h1
 revert h
 dsimp only [zl7]
 (repeat' (first | (with_reducible refine ze ?_ ?_) | split)) <;> intro h <;> first | exact h1 _ h | cases h
theorem zvC (N : Nat) : Zh (zn qP) (zDI N) zwF (lam N []) Tryd.f46 (zl7 N) := fun x => by kernel_rfl
def zDh (N : Nat) : Ent qP := zy (zd qP) (zi _) zl 46 Tryd.f46 Tryd.func46 rfl zwF (lam N []) (zm (l := []) an (by kernel_rfl)) (zl7 N) (fun _ => ⟨rfl, rfl⟩) (zvC N) (fun _ _ _ h => zu h (fun _ _ => rfl) (fun _ _ => rfl)) (zta N)
def zaL : Nat -> Keep × Keep := anL [(12, ⟨[7, 8], [], [30], [], [], [], [], [30], false, none, []⟩, ⟨[7], [], [30], [], [], [], [], [30], false, none, []⟩)]
def zxw (N : Nat) : GamK := gam (P := qP) [zCD N]
def JE (N : Nat) : LSpec where
 X := Nat × Int × qA
 Y := (Nat × qA)
 p := fun s => rdS 48 0 [(7, .vs0 30 1), (8, .int .i64)] [(30, .tt)] s fun ⟨a0, a1, _⟩ ⟨a2, _⟩ => (a0, a1, a2)
 st := fun u12 => mkS 48 [(7, (AV.vs 30 0 u12.1 1)), (8, (qI u12.2.1))] [(30, u12.2.2)] (zaL 12).1.toks 0
 out := fun y => (.exit 0, mkS 48 [(7, (AV.vs 30 0 y.1 1))] [(30, y.2)] (zaL 12).2.toks 0)
 b := fun u12 α kn ke => (match (decide (u12.2.1 < ((u12.1 : Nat) : Int))) with | true => (if 0 <= u12.2.1 /\ u12.2.1 <= (u12.1 : Int) then (if 0 <= u12.2.1 /\ u12.2.1 <= (u12.1 : Int) then (if (0 + (u12.2.1.toNat)) * 1 <= u12.2.2.length then (if ((0 + u12.2.1.toNat) + (u12.1 - u12.2.1.toNat)) * 1 <= u12.2.2.length then (kn (u12.1, (i64 (u12.2.1 + (((Nat.min (u12.2.1.toNat) (u12.1 - u12.2.1.toNat)) : Nat) : Int))), ((splice u12.2.2 ((0 + u12.2.1.toNat) * 1) ((u12.2.2.drop (0 * 1)).take ((Nat.min (u12.2.1.toNat) (u12.1 - u12.2.1.toNat)) * 1))).map dat0))) else none) else none) else none) else none) | false => (ke (u12.1, (u12.2.2.map dat0))))
abbrev zt6 (N : Nat) (x : Nat × Int × qA) : Option ((Nat × qA)) := (JE N).L N x
def zgy (N : Nat) : FSpec where
 X := qL × Int
 Y := Nat × qA
 ash := [[some 1], [none]]
 S := ⟨[[some 1000001]], [], [], [], []⟩
 bm := true
 pat := fun a b => rdA [.lst 1, .int .i64] [] a b fun ⟨a0, a1, _⟩ _ => (a0, a1)
 args := fun x => [(AV.list 1 x.1 none), (AV.v (.int .i64 x.2))]
 ret := fun y => ⟨(AV.vs 0 0 y.1 1), [], some y.2, [], [], [], none⟩
 t := fun x α k => (match (decide (x.2 < 0)) with | true => none | false => (match zCI N ((IntKind.u64.wrap (x.1.length : Int)), (IntKind.u64.wrap x.2)) with | some y1 => (match (decide (y1.1 > 0)) with | true => none | false => (match (decide (y1.2 > 9223372036854775807)) with | true => none | false => (if 0 <= (IntKind.i64.wrap y1.2) /\ (IntKind.i64.wrap y1.2) <= (IntKind.i64.wrap y1.2) /\ (IntKind.i64.wrap y1.2).toNat * 8 <= zh then (if (0 + ((IntKind.i64.wrap y1.2).toNat)) * 1 <= (List.replicate (IntKind.i64.wrap y1.2).toNat (AV.v (.int .i64 0))).length then (match zt6 N (((IntKind.i64.wrap y1.2).toNat), (((Nat.min x.1.length ((IntKind.i64.wrap y1.2).toNat)) : Nat) : Int), ((splice (List.replicate (IntKind.i64.wrap y1.2).toNat (AV.v (.int .i64 0))) (0 * 1) ((x.1.take (Nat.min x.1.length ((IntKind.i64.wrap y1.2).toNat))).flatten)).map dat0)) with | some y2 => (k (y2.1, (y2.2.map dat0))) | none => none) else none) else none))) | none => none))
abbrev zwl (N : Nat) (x : qL × Int) : Option (Nat × qA) := (zgy N).d x
def zcY (N : Nat) : List (Nat × LSpec) := [(12, JE N)]
def zi5 : Code := Tryd.f44.body.getD .skip
theorem zjU (N : Nat) : Par (JE N).b := by
 intro x α β kn ke kn' ke' r r' h h1 h2
 revert h
 dsimp only [JE]
 (repeat' (first | (with_reducible refine ze ?_ ?_) | split)) <;> intro h <;> first | exact h1 _ h | exact h2 _ h | cases h
theorem zig (N : Nat) : ji (zn qP) (zxw N) zaL N (zcY N) 12 zi5 (JE N) := fun x α kn ke => by kernel_rfl
theorem zhs (N : Nat) : ZK qP zaL N (zcY N) 12 (zc 12 zi5) :=
 zD (zd qP) (zi _) zl zaL N (zcY N) 12 zi5 (l := []) (by kernel_rfl) (by kernel_rfl) an (JE N) rfl (fun s x hc h => by dsimp only [JE] at h; exact zJ hc h (fun _ _ => rfl) rfl rfl rfl) (fun _ => rfl) (zig N) (zjU N)
theorem znP (N : Nat) : Zd (zgy N).t := by
 intro x α β k k' r r' h h1
 revert h
 dsimp only [zgy]
 (repeat' (first | (with_reducible refine ze ?_ ?_) | split)) <;> intro h <;> first | exact h1 _ h | cases h
theorem znD (N : Nat) : Zh (zn qP) (zxw N) zaL (lam N (zcY N)) Tryd.f44 (zgy N) := fun x => by kernel_rfl
def zBv (N : Nat) : Ent qP := zy (zd qP) (zi _) zl 44 Tryd.f44 Tryd.func44 rfl zaL (lam N (zcY N)) (zm (l := [(12, zc 12 zi5)]) (al (zhs N) an) (by kernel_rfl)) (zgy N) (fun _ => ⟨rfl, rfl⟩) (znD N) (fun _ _ _ h => zu h (fun _ _ => rfl) (fun _ _ => rfl)) (znP N)
def Ji : Nat -> Keep × Keep := anL [(2, ⟨[0, 2, 3, 4, 12, 13], [], [0, 1, 2, 3, 4, 5], [(11, 1)], [], [], [], [4, 5], false, none, []⟩, ⟨[], [], [0, 1, 2, 3, 4, 5], [], [], [], [], [4, 5], false, none, []⟩), (14, ⟨[0, 2, 3, 4, 6, 7, 12, 13, 30, 31], [], [0, 1, 2, 3, 4, 5, 7], [(11, 1), (29, 25)], [], [], [], [4, 5], false, none, []⟩, ⟨[0, 2, 3, 4, 12, 13], [], [0, 1, 2, 3, 4, 5], [(11, 1)], [], [], [], [4, 5], false, none, []⟩)]
def zzf (N : Nat) : GamK := gam (P := qP) [zvo N, zDh N]
def Za (N : Nat) : LSpec where
 X := qL × qL × Int × Int × Int × Int × Int × qL × Nat × qL × Nat × qA × qA × qL
 Y := (qL × Int × Int × qL × Nat × qL × Nat × qA × qA)
 p := fun s => zem s.env.length 58 <| zem s.nin 6 <| Z3 1 (s.at 11) fun a0 => Z3 25 (s.at 29) fun a1 => pFn 46 (s.at 0) fun c5 c6 => zQ c5 <| zQ c6 <| zbd 1 0 (s.at 2) <| zbd 2 0 (s.at 3) <| zbd 3 0 (s.at 4) <| jQ .i64 (s.at 6) fun a2 => zbd 7 0 (s.at 7) <| jQ .i64 (s.at 12) fun a3 => jQ .i64 (s.at 13) fun a4 => jQ .i64 (s.at 30) fun a5 => jQ .i64 (s.at 31) fun a6 => Z0 (s.bx 0) fun c17 => zk c17 fun c19 c20 => Z3 1 c19 fun a7 => zQ c20 <| Z0 (s.bx 1) fun c21 => zk c21 fun c23 c24 => zhn 4 1 c23 fun a8 => zQ c24 <| Z0 (s.bx 2) fun c25 => zk c25 fun c27 c28 => Z3 25 c27 fun a9 => zQ c28 <| Z0 (s.bx 3) fun c29 => zk c29 fun c31 c32 => zhn 5 1 c31 fun a10 => zQ c32 <| Z0 (s.bx 4) fun a11 => Z0 (s.bx 5) fun a12 => Z0 (s.bx 7) fun c35 => zk c35 fun c37 c38 => Z3 29 c37 fun a13 => zQ c38 <| some (a0, a1, a2, a3, a4, a5, a6, a7, a8, a9, a10, a11, a12, a13)
 st := fun u14 => mkS 58 [(11, (AV.list 1 u14.1 none)), (29, (AV.list 25 u14.2.1 none)), (0, (AV.fn (.func 46) [] [])), (2, (AV.ptr 1 0)), (3, (AV.ptr 2 0)), (4, (AV.ptr 3 0)), (6, (qI u14.2.2.1)), (7, (AV.ptr 7 0)), (12, (qI u14.2.2.2.1)), (13, (qI u14.2.2.2.2.1)), (30, (qI u14.2.2.2.2.2.1)), (31, (qI u14.2.2.2.2.2.2.1))] [(0, [(AV.list 1 u14.2.2.2.2.2.2.2.1 none)]), (1, [(AV.vs 4 0 u14.2.2.2.2.2.2.2.2.1 1)]), (2, [(AV.list 25 u14.2.2.2.2.2.2.2.2.2.1 none)]), (3, [(AV.vs 5 0 u14.2.2.2.2.2.2.2.2.2.2.1 1)]), (4, u14.2.2.2.2.2.2.2.2.2.2.2.1), (5, u14.2.2.2.2.2.2.2.2.2.2.2.2.1), (7, [(AV.list 29 u14.2.2.2.2.2.2.2.2.2.2.2.2.2 none)])] (Ji 14).1.toks 6
 out := fun y => (.exit 2, mkS 58 [(11, (AV.list 1 y.1 none)), (0, (AV.fn (.func 46) [] [])), (2, (AV.ptr 1 0)), (3, (AV.ptr 2 0)), (4, (AV.ptr 3 0)), (12, (qI y.2.1)), (13, (qI y.2.2.1))] [(0, [(AV.list 1 y.2.2.2.1 none)]), (1, [(AV.vs 4 0 y.2.2.2.2.1 1)]), (2, [(AV.list 25 y.2.2.2.2.2.1 none)]), (3, [(AV.vs 5 0 y.2.2.2.2.2.2.1 1)]), (4, y.2.2.2.2.2.2.2.1), (5, y.2.2.2.2.2.2.2.2)] (Ji 14).2.toks 6)
 b := fun u14 α kn ke => (match (decide (u14.2.2.2.2.2.2.1 < u14.2.2.2.2.2.1)) with | true => (if 0 <= u14.2.2.2.2.2.2.1 then (match u14.2.1[u14.2.2.2.2.2.2.1.toNat]? with | some c12 => (match zju c12 with | some e13 => (if 0 <= u14.2.2.2.2.2.2.1 /\ u14.2.2.2.2.2.2.1 < (u14.2.2.2.2.2.2.2.2.2.2.1 : Int) then (match u14.2.2.2.2.2.2.2.2.2.2.2.2.1[((0 + u14.2.2.2.2.2.2.1.toNat) * 1)]? with | some x14 => (match x14 with | .v (.bool b15) => (match (!b15) with | true => (match zoc N u14.2.2.2.2.2.2.2.2.2.2.2.2.2 with | some y16 => (match zyN N ((zx y16), e13) with | some y17 => (match y17 with | true => (if 0 <= u14.2.2.1 /\ u14.2.2.1 < (u14.2.2.2.2.2.2.2.2.1 : Int) then (if ((0 + u14.2.2.1.toNat) * 1) + 1 <= u14.2.2.2.2.2.2.2.2.2.2.2.1.length then (if 0 <= u14.2.2.2.2.2.2.1 /\ u14.2.2.2.2.2.2.1 < (u14.2.2.2.2.2.2.2.2.2.2.1 : Int) then (if ((0 + u14.2.2.2.2.2.2.1.toNat) * 1) + 1 <= u14.2.2.2.2.2.2.2.2.2.2.2.2.1.length then (ke (u14.1, u14.2.2.2.1, u14.2.2.2.2.1, u14.2.2.2.2.2.2.2.1, u14.2.2.2.2.2.2.2.2.1, u14.2.2.2.2.2.2.2.2.2.1, u14.2.2.2.2.2.2.2.2.2.2.1, ((splice u14.2.2.2.2.2.2.2.2.2.2.2.1 ((0 + u14.2.2.1.toNat) * 1) [(AV.v (.int .i64 u14.2.2.2.2.2.2.1))]).map dat0), ((splice u14.2.2.2.2.2.2.2.2.2.2.2.2.1 ((0 + u14.2.2.2.2.2.2.1.toNat) * 1) [(AV.v (.bool true))]).map dat0))) else none) else none) else none) else none) | false => (kn (u14.1, u14.2.1, u14.2.2.1, u14.2.2.2.1, u14.2.2.2.2.1, u14.2.2.2.2.2.1, (i64 (u14.2.2.2.2.2.2.1 + 1)), u14.2.2.2.2.2.2.2.1, u14.2.2.2.2.2.2.2.2.1, u14.2.2.2.2.2.2.2.2.2.1, u14.2.2.2.2.2.2.2.2.2.2.1, (u14.2.2.2.2.2.2.2.2.2.2.2.1.map dat0), (u14.2.2.2.2.2.2.2.2.2.2.2.2.1.map dat0), u14.2.2.2.2.2.2.2.2.2.2.2.2.2))) | none => none) | none => none) | false => (kn (u14.1, u14.2.1, u14.2.2.1, u14.2.2.2.1, u14.2.2.2.2.1, u14.2.2.2.2.2.1, (i64 (u14.2.2.2.2.2.2.1 + 1)), u14.2.2.2.2.2.2.2.1, u14.2.2.2.2.2.2.2.2.1, u14.2.2.2.2.2.2.2.2.2.1, u14.2.2.2.2.2.2.2.2.2.2.1, (u14.2.2.2.2.2.2.2.2.2.2.2.1.map dat0), (u14.2.2.2.2.2.2.2.2.2.2.2.2.1.map dat0), u14.2.2.2.2.2.2.2.2.2.2.2.2.2))) | _ => none) | none => none) else none) | none => none) | none => none) else none) | false => (ke (u14.1, u14.2.2.2.1, u14.2.2.2.2.1, u14.2.2.2.2.2.2.2.1, u14.2.2.2.2.2.2.2.2.1, u14.2.2.2.2.2.2.2.2.2.1, u14.2.2.2.2.2.2.2.2.2.2.1, (u14.2.2.2.2.2.2.2.2.2.2.2.1.map dat0), (u14.2.2.2.2.2.2.2.2.2.2.2.2.1.map dat0))))
abbrev zop (N : Nat) (x : qL × qL × Int × Int × Int × Int × Int × qL × Nat × qL × Nat × qA × qA × qL) : Option ((qL × Int × Int × qL × Nat × qL × Nat × qA × qA)) := (Za N).L N x
def ZQ (N : Nat) : LSpec where
 X := qL × Int × Int × qL × Nat × qL × Nat × qA × qA
 Y := (qL × Nat × qL × Nat × qA × qA)
 p := fun s => zem s.env.length 58 <| zem s.nin 6 <| Z3 1 (s.at 11) fun a0 => pFn 46 (s.at 0) fun c4 c5 => zQ c4 <| zQ c5 <| zbd 1 0 (s.at 2) <| zbd 2 0 (s.at 3) <| zbd 3 0 (s.at 4) <| jQ .i64 (s.at 12) fun a1 => jQ .i64 (s.at 13) fun a2 => Z0 (s.bx 0) fun c12 => zk c12 fun c14 c15 => Z3 1 c14 fun a3 => zQ c15 <| Z0 (s.bx 1) fun c16 => zk c16 fun c18 c19 => zhn 4 1 c18 fun a4 => zQ c19 <| Z0 (s.bx 2) fun c20 => zk c20 fun c22 c23 => Z3 25 c22 fun a5 => zQ c23 <| Z0 (s.bx 3) fun c24 => zk c24 fun c26 c27 => zhn 5 1 c26 fun a6 => zQ c27 <| Z0 (s.bx 4) fun a7 => Z0 (s.bx 5) fun a8 => some (a0, a1, a2, a3, a4, a5, a6, a7, a8)
 st := fun u2 => mkS 58 [(11, (AV.list 1 u2.1 none)), (0, (AV.fn (.func 46) [] [])), (2, (AV.ptr 1 0)), (3, (AV.ptr 2 0)), (4, (AV.ptr 3 0)), (12, (qI u2.2.1)), (13, (qI u2.2.2.1))] [(0, [(AV.list 1 u2.2.2.2.1 none)]), (1, [(AV.vs 4 0 u2.2.2.2.2.1 1)]), (2, [(AV.list 25 u2.2.2.2.2.2.1 none)]), (3, [(AV.vs 5 0 u2.2.2.2.2.2.2.1 1)]), (4, u2.2.2.2.2.2.2.2.1), (5, u2.2.2.2.2.2.2.2.2)] (Ji 2).1.toks 6
 out := fun y => (.exit 0, mkS 58 [] [(0, [(AV.list 1 y.1 none)]), (1, [(AV.vs 4 0 y.2.1 1)]), (2, [(AV.list 25 y.2.2.1 none)]), (3, [(AV.vs 5 0 y.2.2.2.1 1)]), (4, y.2.2.2.2.1), (5, y.2.2.2.2.2)] (Ji 2).2.toks 6)
 b := fun u2 α kn ke => (match (decide (u2.2.2.1 < u2.2.1)) with | true => (if 0 <= u2.2.2.1 then (match u2.1[u2.2.2.1.toNat]? with | some c19 => (match zfU c19 with | some e20 => (if 0 <= u2.2.2.1 /\ u2.2.2.1 < (u2.2.2.2.2.1 : Int) then (match u2.2.2.2.2.2.2.2.1[((0 + u2.2.2.1.toNat) * 1)]? with | some x21 => (match x21 with | .v (.int q23 n22) => (if q23 = .i64 then (match (decide (n22 >= 0)) with | true => (kn (u2.1, u2.2.1, (i64 (u2.2.2.1 + 1)), u2.2.2.2.1, u2.2.2.2.2.1, u2.2.2.2.2.2.1, u2.2.2.2.2.2.2.1, (u2.2.2.2.2.2.2.2.1.map dat0), (u2.2.2.2.2.2.2.2.2.map dat0))) | false => (match ((e20.1.length : Int) == 0) with | true => (kn (u2.1, u2.2.1, (i64 (u2.2.2.1 + 1)), u2.2.2.2.1, u2.2.2.2.2.1, u2.2.2.2.2.2.1, u2.2.2.2.2.2.2.1, (u2.2.2.2.2.2.2.2.1.map dat0), (u2.2.2.2.2.2.2.2.2.map dat0))) | false => (match zop N (u2.1, u2.2.2.2.2.2.1, u2.2.2.1, u2.2.1, u2.2.2.1, (u2.2.2.2.2.2.1.length : Int), 0, u2.2.2.2.1, u2.2.2.2.2.1, u2.2.2.2.2.2.1, u2.2.2.2.2.2.2.1, (u2.2.2.2.2.2.2.2.1.map dat0), (u2.2.2.2.2.2.2.2.2.map dat0), e20.1) with | some y24 => (kn (y24.1, y24.2.1, (i64 (y24.2.2.1 + 1)), y24.2.2.2.1, y24.2.2.2.2.1, y24.2.2.2.2.2.1, y24.2.2.2.2.2.2.1, (y24.2.2.2.2.2.2.2.1.map dat0), (y24.2.2.2.2.2.2.2.2.map dat0))) | none => none))) else none) | _ => none) | none => none) else none) | none => none) | none => none) else none) | false => (ke (u2.2.2.2.1, u2.2.2.2.2.1, u2.2.2.2.2.2.1, u2.2.2.2.2.2.2.1, (u2.2.2.2.2.2.2.2.1.map dat0), (u2.2.2.2.2.2.2.2.2.map dat0))))
abbrev zxj (N : Nat) (x : qL × Int × Int × qL × Nat × qL × Nat × qA × qA) : Option ((qL × Nat × qL × Nat × qA × qA)) := (ZQ N).L N x
def zed (N : Nat) : FSpec where
 X := qL × Nat × qL × Nat × qA × qA
 Y := qL × Nat × qL × Nat × qA × qA
 ash := [[none], [none], [none], [none], [none]]
 bsh := [[some 1], [none], [some 25], [none], [], []]
 S := ⟨[], [[some 1], [some 2000001], [some 25], [some 2000001], [], []], [], [], [4, 5]⟩
 pat := fun a b => zk a fun v1 c2 => pFn 46 v1 fun c3 c4 => zQ c3 <| zQ c4 <| zk c2 fun v5 c6 => zbd 0 0 v5 <| zk c6 fun v7 c8 => zbd 1 0 v7 <| zk c8 fun v9 c10 => zbd 2 0 v9 <| zk c10 fun v11 c12 => zbd 3 0 v11 <| zQ c12 <| zk b fun v13 c14 => zk v13 fun c15 c16 => Z3 1 c15 fun a0 => zQ c16 <| zk c14 fun v17 c18 => zk v17 fun c19 c20 => zhn 4 1 c19 fun a1 => zQ c20 <| zk c18 fun v21 c22 => zk v21 fun c23 c24 => Z3 25 c23 fun a2 => zQ c24 <| zk c22 fun v25 c26 => zk v25 fun c27 c28 => zhn 5 1 c27 fun a3 => zQ c28 <| zk c26 fun a4 c29 => zk c29 fun a5 c30 => zQ c30 <| some (a0, a1, a2, a3, a4, a5)
 args := fun x => [(AV.fn (.func 46) [] []), (AV.ptr 0 0), (AV.ptr 1 0), (AV.ptr 2 0), (AV.ptr 3 0)]
 bs := fun x => [[(AV.list 1 x.1 none)], [(AV.vs 4 0 x.2.1 1)], [(AV.list 25 x.2.2.1 none)], [(AV.vs 5 0 x.2.2.2.1 1)], x.2.2.2.2.1, x.2.2.2.2.2]
 ret := fun y => ⟨(AV.tup []), [[(AV.list 1 y.1 none)], [(AV.vs 4 0 y.2.1 1)], [(AV.list 25 y.2.2.1 none)], [(AV.vs 5 0 y.2.2.2.1 1)], y.2.2.2.2.1, y.2.2.2.2.2], none, [], [], [4, 5], none⟩
 t := fun x α k => (match zxj N (x.1, (x.1.length : Int), 0, x.1, x.2.1, x.2.2.1, x.2.2.2.1, (x.2.2.2.2.1.map dat0), (x.2.2.2.2.2.map dat0)) with | some y25 => (k (y25.1, y25.2.1, y25.2.2.1, y25.2.2.2.1, (y25.2.2.2.2.1.map dat0), (y25.2.2.2.2.2.map dat0))) | none => none)
abbrev zyI (N : Nat) (x : qL × Nat × qL × Nat × qA × qA) : Option (qL × Nat × qL × Nat × qA × qA) := (zed N).d x
def zbZ (N : Nat) : List (Nat × LSpec) := [(2, ZQ N), (14, Za N)]
def ze8 : Code := Tryd.f45.body.getD .skip
theorem zql (N : Nat) : Par (Za N).b := by
 intro x α β kn ke kn' ke' r r' h h1 h2
 revert h
 dsimp only [Za]
 (repeat' (first | (with_reducible refine ze ?_ ?_) | split)) <;> intro h <;> first | exact h1 _ h | exact h2 _ h | cases h
theorem zkL (N : Nat) : ji (zn qP) (zzf N) Ji N (zbZ N) 14 ze8 (Za N) := fun x α kn ke => by kernel_rfl
theorem zoz (N : Nat) (s : AS) (x : (Za N).X) (hc : s = ZM (Ji 14).1 s) (h : (Za N).p s = some x) : s = (Za N).st x := by
 replace h : zem _ _ _ = some x := h
 obtain ⟨h1, g0⟩ := jy h
 obtain ⟨h2, g1⟩ := jy g0; clear g0
 obtain ⟨a0, h3, g2⟩ := zr g1; clear g1
 obtain ⟨a1, h4, g3⟩ := zr g2; clear g2
 obtain ⟨c5, c6, h7, g4⟩ := zat g3; clear g3
 obtain ⟨rfl, g5⟩ := zg g4; clear g4
 obtain ⟨rfl, g6⟩ := zg g5; clear g5
 obtain ⟨h8, g7⟩ := Zb g6; clear g6
 obtain ⟨h9, g8⟩ := Zb g7; clear g7
 obtain ⟨h10, g9⟩ := Zb g8; clear g8
 obtain ⟨a2, h11, g10⟩ := zC g9; clear g9
 obtain ⟨h12, g11⟩ := Zb g10; clear g10
 obtain ⟨a3, h13, g12⟩ := zC g11; clear g11
 obtain ⟨a4, h14, g13⟩ := zC g12; clear g12
 obtain ⟨a5, h15, g14⟩ := zC g13; clear g13
 obtain ⟨a6, h16, g15⟩ := zC g14; clear g14
 obtain ⟨c17, h18, g16⟩ := zO g15; clear g15
 obtain ⟨c19, c20, rfl, g17⟩ := zb g16; clear g16
 obtain ⟨a7, rfl, g18⟩ := zr g17; clear g17
 obtain ⟨rfl, g19⟩ := zg g18; clear g18
 obtain ⟨c21, h22, g20⟩ := zO g19; clear g19
 obtain ⟨c23, c24, rfl, g21⟩ := zb g20; clear g20
 obtain ⟨a8, rfl, g22⟩ := jl g21; clear g21
 obtain ⟨rfl, g23⟩ := zg g22; clear g22
 obtain ⟨c25, h26, g24⟩ := zO g23; clear g23
 obtain ⟨c27, c28, rfl, g25⟩ := zb g24; clear g24
 obtain ⟨a9, rfl, g26⟩ := zr g25; clear g25
 obtain ⟨rfl, g27⟩ := zg g26; clear g26
 obtain ⟨c29, h30, g28⟩ := zO g27; clear g27
 obtain ⟨c31, c32, rfl, g29⟩ := zb g28; clear g28
 obtain ⟨a10, rfl, g30⟩ := jl g29; clear g29
 obtain ⟨rfl, g31⟩ := zg g30; clear g30
 obtain ⟨a11, h33, g32⟩ := zO g31; clear g31
 obtain ⟨a12, h34, g33⟩ := zO g32; clear g32
 obtain ⟨c35, h36, g34⟩ := zO g33; clear g33
 obtain ⟨c37, c38, rfl, g35⟩ := zb g34; clear g34
 obtain ⟨a13, rfl, g36⟩ := zr g35; clear g35
 obtain ⟨rfl, g37⟩ := zg g36; clear g36
 clear h
 cases g37
 exact JF hc h1 h2 rfl rfl rfl rfl ⟨h3, h4, h7, h8, h9, h10, h11, h12, h13, h14, h15, h16, trivial⟩ ⟨h18, h22, h26, h30, h33, h34, h36, trivial⟩
theorem zeC (N : Nat) : ZK qP Ji N (zbZ N) 14 (zc 14 ze8) :=
 zD (zd qP) (zi _) zl Ji N (zbZ N) 14 ze8 (l := []) (by kernel_rfl) (by kernel_rfl) an (Za N) rfl (zoz N) (fun _ => rfl) (zkL N) (zql N)
theorem zsc (N : Nat) : Par (ZQ N).b := by
 intro x α β kn ke kn' ke' r r' h h1 h2
 revert h
 dsimp only [ZQ]
 (repeat' (first | (with_reducible refine ze ?_ ?_) | split)) <;> intro h <;> first | exact h1 _ h | exact h2 _ h | cases h
theorem zot (N : Nat) : ji (zn qP) (zzf N) Ji N (zbZ N) 2 ze8 (ZQ N) := fun x α kn ke => by kernel_rfl
theorem ztu (N : Nat) (s : AS) (x : (ZQ N).X) (hc : s = ZM (Ji 2).1 s) (h : (ZQ N).p s = some x) : s = (ZQ N).st x := by
 replace h : zem _ _ _ = some x := h
 obtain ⟨h1, g0⟩ := jy h
 obtain ⟨h2, g1⟩ := jy g0; clear g0
 obtain ⟨a0, h3, g2⟩ := zr g1; clear g1
 obtain ⟨c4, c5, h6, g3⟩ := zat g2; clear g2
 obtain ⟨rfl, g4⟩ := zg g3; clear g3
 obtain ⟨rfl, g5⟩ := zg g4; clear g4
 obtain ⟨h7, g6⟩ := Zb g5; clear g5
 obtain ⟨h8, g7⟩ := Zb g6; clear g6
 obtain ⟨h9, g8⟩ := Zb g7; clear g7
 obtain ⟨a1, h10, g9⟩ := zC g8; clear g8
 obtain ⟨a2, h11, g10⟩ := zC g9; clear g9
 obtain ⟨c12, h13, g11⟩ := zO g10; clear g10
 obtain ⟨c14, c15, rfl, g12⟩ := zb g11; clear g11
 obtain ⟨a3, rfl, g13⟩ := zr g12; clear g12
 obtain ⟨rfl, g14⟩ := zg g13; clear g13
 obtain ⟨c16, h17, g15⟩ := zO g14; clear g14
 obtain ⟨c18, c19, rfl, g16⟩ := zb g15; clear g15
 obtain ⟨a4, rfl, g17⟩ := jl g16; clear g16
 obtain ⟨rfl, g18⟩ := zg g17; clear g17
 obtain ⟨c20, h21, g19⟩ := zO g18; clear g18
 obtain ⟨c22, c23, rfl, g20⟩ := zb g19; clear g19
 obtain ⟨a5, rfl, g21⟩ := zr g20; clear g20
 obtain ⟨rfl, g22⟩ := zg g21; clear g21
 obtain ⟨c24, h25, g23⟩ := zO g22; clear g22
 obtain ⟨c26, c27, rfl, g24⟩ := zb g23; clear g23
 obtain ⟨a6, rfl, g25⟩ := jl g24; clear g24
 obtain ⟨rfl, g26⟩ := zg g25; clear g25
 obtain ⟨a7, h28, g27⟩ := zO g26; clear g26
 obtain ⟨a8, h29, g28⟩ := zO g27; clear g27
 clear h
 cases g28
 exact JF hc h1 h2 rfl rfl rfl rfl ⟨h3, h6, h7, h8, h9, h10, h11, trivial⟩ ⟨h13, h17, h21, h25, h28, h29, trivial⟩
theorem zpt (N : Nat) : ZK qP Ji N (zbZ N) 2 (zc 2 ze8) :=
 zD (zd qP) (zi _) zl Ji N (zbZ N) 2 ze8 (l := [(14, zc 14 ze8)]) (by kernel_rfl) (by kernel_rfl) (al (zeC N) an) (ZQ N) rfl (ztu N) (fun _ => rfl) (zot N) (zsc N)
theorem zra (N : Nat) : Zd (zed N).t := by
 intro x α β k k' r r' h h1
 revert h
 dsimp only [zed]
 (repeat' (first | (with_reducible refine ze ?_ ?_) | split)) <;> intro h <;> first | exact h1 _ h | cases h
theorem ztq (N : Nat) : Zh (zn qP) (zzf N) Ji (lam N (zbZ N)) Tryd.f45 (zed N) := fun x => by kernel_rfl
theorem zxV (N : Nat) (a : List AV) (b : qL) (x : (zed N).X) (h : (zed N).pat a b = some x) : a = (zed N).args x /\ b = (zed N).bs x := by
 obtain ⟨v1, c2, rfl, g0⟩ := zb (show zk _ _ = some x from h)
 obtain ⟨c3, c4, rfl, g1⟩ := zat g0; clear g0
 obtain ⟨rfl, g2⟩ := zg g1; clear g1
 obtain ⟨rfl, g3⟩ := zg g2; clear g2
 obtain ⟨v5, c6, rfl, g4⟩ := zb g3; clear g3
 obtain ⟨rfl, g5⟩ := Zb g4; clear g4
 obtain ⟨v7, c8, rfl, g6⟩ := zb g5; clear g5
 obtain ⟨rfl, g7⟩ := Zb g6; clear g6
 obtain ⟨v9, c10, rfl, g8⟩ := zb g7; clear g7
 obtain ⟨rfl, g9⟩ := Zb g8; clear g8
 obtain ⟨v11, c12, rfl, g10⟩ := zb g9; clear g9
 obtain ⟨rfl, g11⟩ := Zb g10; clear g10
 obtain ⟨rfl, g12⟩ := zg g11; clear g11
 obtain ⟨v13, c14, rfl, g13⟩ := zb g12; clear g12
 obtain ⟨c15, c16, rfl, g14⟩ := zb g13; clear g13
 obtain ⟨a0, rfl, g15⟩ := zr g14; clear g14
 obtain ⟨rfl, g16⟩ := zg g15; clear g15
 obtain ⟨v17, c18, rfl, g17⟩ := zb g16; clear g16
 obtain ⟨c19, c20, rfl, g18⟩ := zb g17; clear g17
 obtain ⟨a1, rfl, g19⟩ := jl g18; clear g18
 obtain ⟨rfl, g20⟩ := zg g19; clear g19
 obtain ⟨v21, c22, rfl, g21⟩ := zb g20; clear g20
 obtain ⟨c23, c24, rfl, g22⟩ := zb g21; clear g21
 obtain ⟨a2, rfl, g23⟩ := zr g22; clear g22
 obtain ⟨rfl, g24⟩ := zg g23; clear g23
 obtain ⟨v25, c26, rfl, g25⟩ := zb g24; clear g24
 obtain ⟨c27, c28, rfl, g26⟩ := zb g25; clear g25
 obtain ⟨a3, rfl, g27⟩ := jl g26; clear g26
 obtain ⟨rfl, g28⟩ := zg g27; clear g27
 obtain ⟨a4, c29, rfl, g29⟩ := zb g28; clear g28
 obtain ⟨a5, c30, rfl, g30⟩ := zb g29; clear g29
 obtain ⟨rfl, g31⟩ := zg g30; clear g30
 clear h
 cases g31
 exact ⟨rfl, rfl⟩
def zDS (N : Nat) : Ent qP := zy (zd qP) (zi _) zl 45 Tryd.f45 Tryd.func45 rfl Ji (lam N (zbZ N)) (zm (l := [(2, zc 2 ze8), (14, zc 14 ze8)]) (al (zpt N) (al (zeC N) an)) (by kernel_rfl)) (zed N) (fun _ => ⟨rfl, rfl⟩) (ztq N) (zxV N) (zra N)
def zb2 : Nat -> Keep × Keep := anL [(4, ⟨[3, 7, 8], [], [3], [(0, 9)], [], [], [], [], false, none, []⟩, qK [4] [] [])]
def zB3 (N : Nat) : GamK := gam (P := qP) []
def Z7 (N : Nat) : LSpec where
 X := qL × Int × Int × RT1
 Y := (Int) ⊕ (Unit)
 p := fun s => rdS 19 0 [(0, .lst 9), (3, .ptr 3 0), (7, .int .i64), (8, .int .i64)] [(3, .row RK1)] s fun ⟨a0, _, a1, a2, _⟩ ⟨a3, _⟩ => (a0, a1, a2, a3)
 st := fun u4 => mkS 19 [(0, (AV.list 9 u4.1 none)), (3, (AV.ptr 3 0)), (7, (qI u4.2.1)), (8, (qI u4.2.2.1))] [(3, (zq u4.2.2.2))] (zb2 4).1.toks 0
 out := fun y => match y with
  | .inl y => (.ret, mkS 19 [(4, (qI y))] [] (zb2 4).2.toks 0)
  | .inr y => (.exit 0, mkS 19 [] [] (zb2 4).2.toks 0)
 b := fun u4 α kn ke => (match (decide (u4.2.2.1 < u4.2.1)) with | true => (if 0 <= u4.2.2.1 then (match u4.1[u4.2.2.1.toNat]? with | some c1 => (match Jv c1 with | some e2 => (match (((u4.2.2.2.1 == e2.1) && ((u4.2.2.2.2.1 == e2.2.1) && ((u4.2.2.2.2.2.1 == e2.2.2.1) && ((u4.2.2.2.2.2.2.1 == e2.2.2.2.1) && true)))) && ((u4.2.2.2.2.2.2.2.1 == e2.2.2.2.2.1) && ((u4.2.2.2.2.2.2.2.2.1 == e2.2.2.2.2.2.1) && ((u4.2.2.2.2.2.2.2.2.2.1 == e2.2.2.2.2.2.2.1) && ((u4.2.2.2.2.2.2.2.2.2.2.1 == e2.2.2.2.2.2.2.2.1) && ((u4.2.2.2.2.2.2.2.2.2.2.2.1 == e2.2.2.2.2.2.2.2.2.1) && true)))))) with | true => (ke (.inl u4.2.2.1)) | false => (kn (u4.1, u4.2.1, (i64 (u4.2.2.1 + 1)), u4.2.2.2))) | none => none) | none => none) else none) | false => (ke (.inr ())))
abbrev zwm (N : Nat) (x : qL × Int × Int × RT1) : Option ((Int) ⊕ (Unit)) := (Z7 N).L N x
def zlh (N : Nat) : FSpec where
 X := qL × RT1
 Y := Int
 ash := [[some 9], [none, none, none, none, none, none, none, none, none]]
 S := ⟨[[none]], [], [], [], []⟩
 pat := fun a b => rdA [.lst 9, .agg RK1] [] a b fun ⟨a0, a1, _⟩ _ => (a0, a1)
 args := fun x => [(AV.list 9 x.1 none), (AV.agg (zq x.2))]
 ret := fun y => ⟨(AV.v (.int .i64 y)), [], none, [], [], [], none⟩
 t := fun x α k => (match zwm N (x.1, (x.1.length : Int), 0, x.2) with | some y3 => (match y3 with | .inl z4 => (k z4) | .inr z5 => (k (-1))) | none => none)
abbrev zBt (N : Nat) (x : qL × RT1) : Option (Int) := (zlh N).d x
def zf5 (N : Nat) : List (Nat × LSpec) := [(4, Z7 N)]
def zus : Code := Tryd.f95.body.getD .skip
theorem zqS (N : Nat) : Par (Z7 N).b := by
 intro x α β kn ke kn' ke' r r' h h1 h2
 revert h
 dsimp only [Z7]
 (repeat' (first | (with_reducible refine ze ?_ ?_) | split)) <;> intro h <;> first | exact h1 _ h | exact h2 _ h | cases h
theorem zmw (N : Nat) : ji (zn qP) (zB3 N) zb2 N (zf5 N) 4 zus (Z7 N) := fun x α kn ke => by kernel_rfl
theorem zqo (N : Nat) : ZK qP zb2 N (zf5 N) 4 (zc 4 zus) :=
 zD (zd qP) (zi _) zl zb2 N (zf5 N) 4 zus (l := []) (by kernel_rfl) (by kernel_rfl) an (Z7 N) rfl (fun s x hc h => by dsimp only [Z7] at h; exact zJ hc h (fun _ _ => rfl) rfl rfl rfl) (fun _ => rfl) (zmw N) (zqS N)
theorem zqD (N : Nat) : Zd (zlh N).t := by
 intro x α β k k' r r' h h1
 revert h
 dsimp only [zlh]
 (repeat' (first | (with_reducible refine ze ?_ ?_) | split)) <;> intro h <;> first | exact h1 _ h | cases h
theorem ztg (N : Nat) : Zh (zn qP) (zB3 N) zb2 (lam N (zf5 N)) Tryd.f95 (zlh N) := fun x => by kernel_rfl
def zEn (N : Nat) : Ent qP := zy (zd qP) (zi _) zl 95 Tryd.f95 Tryd.func95 rfl zb2 (lam N (zf5 N)) (zm (l := [(4, zc 4 zus)]) (al (zqo N) an) (by kernel_rfl)) (zlh N) (fun _ => ⟨rfl, rfl⟩) (ztg N) (fun _ _ _ h => zu h (fun _ _ => rfl) (fun _ _ => rfl)) (zqD N)
def zw2 : Nat -> Keep × Keep := anL []
def zEf (N : Nat) : GamK := gam (P := qP) [zEn N]
def zku (N : Nat) : FSpec where
 X := qL × RT1
 Y := Bool
 ash := [[some 9], [none, none, none, none, none, none, none, none, none]]
 S := ⟨[[none]], [], [], [], []⟩
 pat := fun a b => rdA [.lst 9, .agg RK1] [] a b fun ⟨a0, a1, _⟩ _ => (a0, a1)
 args := fun x => [(AV.list 9 x.1 none), (AV.agg (zq x.2))]
 ret := fun y => ⟨(AV.v (.bool y)), [], none, [], [], [], none⟩
 t := fun x α k => (match zBt N x with | some y1 => (k (decide (y1 >= 0))) | none => none)
abbrev zzh (N : Nat) (x : qL × RT1) : Option (Bool) := (zku N).d x
theorem ztk (N : Nat) : Zd (zku N).t := by
 intro x α β k k' r r' h h1
 revert h
 dsimp only [zku]
 (repeat' (first | (with_reducible refine ze ?_ ?_) | split)) <;> intro h <;> first | exact h1 _ h | cases h
theorem zvs (N : Nat) : Zh (zn qP) (zEf N) zw2 (lam N []) Tryd.f71 (zku N) := fun x => by kernel_rfl
def zEB (N : Nat) : Ent qP := zy (zd qP) (zi _) zl 71 Tryd.f71 Tryd.func71 rfl zw2 (lam N []) (zm (l := []) an (by kernel_rfl)) (zku N) (fun _ => ⟨rfl, rfl⟩) (zvs N) (fun _ _ _ h => zu h (fun _ _ => rfl) (fun _ _ => rfl)) (ztk N)
def zvY : Nat -> Keep × Keep := anL []
def zDG (N : Nat) : GamK := gam (P := qP) [zEB N]
def zkY (N : Nat) : FSpec where
 X := RT1 × RT0
 Y := Bool × RT0
 ash := [[none, none, none, none, none, none, none, none, none], [none]]
 bsh := [[none, none, none, none, none, none, none, none, none, some 9, none, none, none, none, none, none, none, none, none, none, none, none, none, none, none]]
 S := ⟨[[none]], [[]], [], [], []⟩
 pat := fun a b => rdA [.agg RK1, .ptr 0 0] [.row RK0] a b fun ⟨a0, _, _⟩ ⟨a1, _⟩ => (a0, a1)
 args := fun x => [(AV.agg (zq x.1)), (AV.ptr 0 0)]
 bs := fun x => [(zB x.2)]
 ret := fun y => ⟨(AV.v (.bool y.1)), [(zB y.2)], none, [], [], [], none⟩
 t := fun x α k => (match zzh N (x.2.2.2.2.2.2.2.2.2.2.1, x.1) with | some y1 => (k (y1, x.2)) | none => none)
abbrev zxP (N : Nat) (x : RT1 × RT0) : Option (Bool × RT0) := (zkY N).d x
theorem zsP (N : Nat) : Zd (zkY N).t := by
 intro x α β k k' r r' h h1
 revert h
 dsimp only [zkY]
 (repeat' (first | (with_reducible refine ze ?_ ?_) | split)) <;> intro h <;> first | exact h1 _ h | cases h
theorem zuy (N : Nat) : Zh (zn qP) (zDG N) zvY (lam N []) Tryd.f70 (zkY N) := fun x => by kernel_rfl
def zEb (N : Nat) : Ent qP := zy (zd qP) (zi _) zl 70 Tryd.f70 Tryd.func70 rfl zvY (lam N []) (zm (l := []) an (by kernel_rfl)) (zkY N) (fun _ => ⟨rfl, rfl⟩) (zuy N) (fun _ _ _ h => zu h (fun _ _ => rfl) (fun _ _ => rfl)) (zsP N)
def zbU : Nat -> Keep × Keep := anL [(4, ⟨[1, 7, 8], [], [0], [(0, 9)], [], [], [], [], false, none, []⟩, qK [4] [] [0])]
def zA8 (N : Nat) : GamK := gam (P := qP) [zEb N]
def Z8 (N : Nat) : LSpec where
 X := qL × Int × Int × RT0
 Y := (Int × RT0) ⊕ (RT0)
 p := fun s => rdS 19 1 [(0, .lst 9), (1, .fn1 70 0), (7, .int .i64), (8, .int .i64)] [(0, .row RK0)] s fun ⟨a0, _, a1, a2, _⟩ ⟨a3, _⟩ => (a0, a1, a2, a3)
 st := fun u4 => mkS 19 [(0, (AV.list 9 u4.1 none)), (1, (AV.fn (.func 70) [] [(AV.ptr 0 0)])), (7, (qI u4.2.1)), (8, (qI u4.2.2.1))] [(0, (zB u4.2.2.2))] (zbU 4).1.toks 1
 out := fun y => match y with
  | .inl y => (.ret, mkS 19 [(4, (qI y.1))] [(0, (zB y.2))] (zbU 4).2.toks 1)
  | .inr y => (.exit 0, mkS 19 [] [(0, (zB y))] (zbU 4).2.toks 1)
 b := fun u4 α kn ke => (match (decide (u4.2.2.1 < u4.2.1)) with | true => (if 0 <= u4.2.2.1 then (match u4.1[u4.2.2.1.toNat]? with | some c4 => (match Jv c4 with | some e5 => (match zxP N (e5, u4.2.2.2) with | some y6 => (match y6.1 with | true => (ke (.inl (u4.2.2.1, y6.2))) | false => (kn (u4.1, u4.2.1, (i64 (u4.2.2.1 + 1)), y6.2))) | none => none) | none => none) | none => none) else none) | false => (ke (.inr u4.2.2.2)))
abbrev zwT (N : Nat) (x : qL × Int × Int × RT0) : Option ((Int × RT0) ⊕ (RT0)) := (Z8 N).L N x
def zkm (N : Nat) : FSpec where
 X := qL × RT0
 Y := Int × RT0
 ash := [[some 9], [none]]
 bsh := [[none, none, none, none, none, none, none, none, none, some 9, none, none, none, none, none, none, none, none, none, none, none, none, none, none, none]]
 S := ⟨[[none]], [[]], [], [], []⟩
 pat := fun a b => rdA [.lst 9, .fn1 70 0] [.row RK0] a b fun ⟨a0, _, _⟩ ⟨a1, _⟩ => (a0, a1)
 args := fun x => [(AV.list 9 x.1 none), (AV.fn (.func 70) [] [(AV.ptr 0 0)])]
 bs := fun x => [(zB x.2)]
 ret := fun y => ⟨(AV.v (.int .i64 y.1)), [(zB y.2)], none, [], [], [], none⟩
 t := fun x α k => (match zwT N (x.1, (x.1.length : Int), 0, x.2) with | some y7 => (match y7 with | .inl z8 => (k z8) | .inr z9 => (k ((-1), z9))) | none => none)
abbrev zAY (N : Nat) (x : qL × RT0) : Option (Int × RT0) := (zkm N).d x
def zgW (N : Nat) : List (Nat × LSpec) := [(4, Z8 N)]
def zt1 : Code := Tryd.f94.body.getD .skip
theorem ztN (N : Nat) : Par (Z8 N).b := by
 intro x α β kn ke kn' ke' r r' h h1 h2
 revert h
 dsimp only [Z8]
 (repeat' (first | (with_reducible refine ze ?_ ?_) | split)) <;> intro h <;> first | exact h1 _ h | exact h2 _ h | cases h
theorem zpy (N : Nat) : ji (zn qP) (zA8 N) zbU N (zgW N) 4 zt1 (Z8 N) := fun x α kn ke => by kernel_rfl
theorem zmS (N : Nat) : ZK qP zbU N (zgW N) 4 (zc 4 zt1) :=
 zD (zd qP) (zi _) zl zbU N (zgW N) 4 zt1 (l := []) (by kernel_rfl) (by kernel_rfl) an (Z8 N) rfl (fun s x hc h => by dsimp only [Z8] at h; exact zJ hc h (fun _ _ => rfl) rfl rfl rfl) (fun _ => rfl) (zpy N) (ztN N)
theorem ztx (N : Nat) : Zd (zkm N).t := by
 intro x α β k k' r r' h h1
 revert h
 dsimp only [zkm]
 (repeat' (first | (with_reducible refine ze ?_ ?_) | split)) <;> intro h <;> first | exact h1 _ h | cases h
theorem zsM (N : Nat) : Zh (zn qP) (zA8 N) zbU (lam N (zgW N)) Tryd.f94 (zkm N) := fun x => by kernel_rfl
def zEg (N : Nat) : Ent qP := zy (zd qP) (zi _) zl 94 Tryd.f94 Tryd.func94 rfl zbU (lam N (zgW N)) (zm (l := [(4, zc 4 zt1)]) (al (zmS N) an) (by kernel_rfl)) (zkm N) (fun _ => ⟨rfl, rfl⟩) (zsM N) (fun _ _ _ h => zu h (fun _ _ => rfl) (fun _ _ => rfl)) (ztx N)
def zxn : Nat -> Keep × Keep := anL []
def zDt (N : Nat) : GamK := gam (P := qP) [zEg N]
def zjW (N : Nat) : FSpec where
 X := qL × RT0
 Y := Bool × RT0
 ash := [[some 9], [none]]
 bsh := [[none, none, none, none, none, none, none, none, none, some 9, none, none, none, none, none, none, none, none, none, none, none, none, none, none, none]]
 S := ⟨[[none]], [[none, none, none, none, none, none, none, none, none, some 9, none, none, none, none, none, none, none, none, none, none, none, none, none, none, none]], [], [], []⟩
 pat := fun a b => rdA [.lst 9, .fn1 70 0] [.row RK0] a b fun ⟨a0, _, _⟩ ⟨a1, _⟩ => (a0, a1)
 args := fun x => [(AV.list 9 x.1 none), (AV.fn (.func 70) [] [(AV.ptr 0 0)])]
 bs := fun x => [(zB x.2)]
 ret := fun y => ⟨(AV.v (.bool y.1)), [(zB y.2)], none, [], [], [], none⟩
 t := fun x α k => (match zAY N x with | some y1 => (k ((decide (y1.1 >= 0)), y1.2)) | none => none)
abbrev zCk (N : Nat) (x : qL × RT0) : Option (Bool × RT0) := (zjW N).d x
theorem zrY (N : Nat) : Zd (zjW N).t := by
 intro x α β k k' r r' h h1
 revert h
 dsimp only [zjW]
 (repeat' (first | (with_reducible refine ze ?_ ?_) | split)) <;> intro h <;> first | exact h1 _ h | cases h
theorem zvN (N : Nat) : Zh (zn qP) (zDt N) zxn (lam N []) Tryd.f69 (zjW N) := fun x => by kernel_rfl
def zDU (N : Nat) : Ent qP := zy (zd qP) (zi _) zl 69 Tryd.f69 Tryd.func69 rfl zxn (lam N []) (zm (l := []) an (by kernel_rfl)) (zjW N) (fun _ => ⟨rfl, rfl⟩) (zvN N) (fun _ _ _ h => zu h (fun _ _ => rfl) (fun _ _ => rfl)) (zrY N)
def zwC : Nat -> Keep × Keep := anL []
def zDn (N : Nat) : GamK := gam (P := qP) [zDU N]
def zj0 (N : Nat) : FSpec where
 X := RT0 × RT0
 Y := Bool
 ash := [[none, none, none, none, none, none, none, none, none, some 9, none, none, none, none, none, none, none, none, none, none, none, none, none, none, none], [none, none, none, none, none, none, none, none, none, some 9, none, none, none, none, none, none, none, none, none, none, none, none, none, none, none]]
 S := ⟨[[none]], [], [], [], []⟩
 pat := fun a b => rdA [.agg RK0, .agg RK0] [] a b fun ⟨a0, a1, _⟩ _ => (a0, a1)
 args := fun x => [(AV.agg (zB x.1)), (AV.agg (zB x.2))]
 ret := fun y => ⟨(AV.v (.bool y)), [], none, [], [], [], none⟩
 t := fun x α k => (match zCk N (x.1.2.2.2.2.2.2.2.2.2.1, x.2) with | some y1 => (k y1.1) | none => none)
abbrev zp3 (N : Nat) (x : RT0 × RT0) : Option (Bool) := (zj0 N).d x
theorem zsm (N : Nat) : Zd (zj0 N).t := by
 intro x α β k k' r r' h h1
 revert h
 dsimp only [zj0]
 (repeat' (first | (with_reducible refine ze ?_ ?_) | split)) <;> intro h <;> first | exact h1 _ h | cases h
theorem zqW (N : Nat) : Zh (zn qP) (zDn N) zwC (lam N []) Tryd.f47 (zj0 N) := fun x => by kernel_rfl
def zC9 (N : Nat) : Ent qP := zy (zd qP) (zi _) zl 47 Tryd.f47 Tryd.func47 rfl zwC (lam N []) (zm (l := []) an (by kernel_rfl)) (zj0 N) (fun _ => ⟨rfl, rfl⟩) (zqW N) (fun _ _ _ h => zu h (fun _ _ => rfl) (fun _ _ => rfl)) (zsm N)
def jc : Nat -> Keep × Keep := anL [(2, ⟨[0, 2, 3, 4, 12, 13], [], [0, 1, 2, 3, 4, 5], [(11, 1)], [], [], [], [4, 5], false, none, []⟩, ⟨[], [], [0, 1, 2, 3, 4, 5], [], [], [], [], [4, 5], false, none, []⟩), (14, ⟨[0, 2, 3, 4, 6, 7, 12, 13, 30, 31], [], [0, 1, 2, 3, 4, 5, 7], [(11, 1), (29, 25)], [], [], [], [4, 5], false, none, []⟩, ⟨[0, 2, 3, 4, 12, 13], [], [0, 1, 2, 3, 4, 5], [(11, 1)], [], [], [], [4, 5], false, none, []⟩)]
def zp0 (N : Nat) : GamK := gam (P := qP) [zvo N, zC9 N]
def zV (N : Nat) : LSpec where
 X := qL × qL × Int × Int × Int × Int × Int × qL × Nat × qL × Nat × qA × qA × qL
 Y := (qL × Int × Int × qL × Nat × qL × Nat × qA × qA)
 p := fun s => zem s.env.length 58 <| zem s.nin 6 <| Z3 1 (s.at 11) fun a0 => Z3 25 (s.at 29) fun a1 => pFn 47 (s.at 0) fun c5 c6 => zQ c5 <| zQ c6 <| zbd 1 0 (s.at 2) <| zbd 2 0 (s.at 3) <| zbd 3 0 (s.at 4) <| jQ .i64 (s.at 6) fun a2 => zbd 7 0 (s.at 7) <| jQ .i64 (s.at 12) fun a3 => jQ .i64 (s.at 13) fun a4 => jQ .i64 (s.at 30) fun a5 => jQ .i64 (s.at 31) fun a6 => Z0 (s.bx 0) fun c17 => zk c17 fun c19 c20 => Z3 1 c19 fun a7 => zQ c20 <| Z0 (s.bx 1) fun c21 => zk c21 fun c23 c24 => zhn 4 1 c23 fun a8 => zQ c24 <| Z0 (s.bx 2) fun c25 => zk c25 fun c27 c28 => Z3 25 c27 fun a9 => zQ c28 <| Z0 (s.bx 3) fun c29 => zk c29 fun c31 c32 => zhn 5 1 c31 fun a10 => zQ c32 <| Z0 (s.bx 4) fun a11 => Z0 (s.bx 5) fun a12 => Z0 (s.bx 7) fun c35 => zk c35 fun c37 c38 => Z3 29 c37 fun a13 => zQ c38 <| some (a0, a1, a2, a3, a4, a5, a6, a7, a8, a9, a10, a11, a12, a13)
 st := fun u14 => mkS 58 [(11, (AV.list 1 u14.1 none)), (29, (AV.list 25 u14.2.1 none)), (0, (AV.fn (.func 47) [] [])), (2, (AV.ptr 1 0)), (3, (AV.ptr 2 0)), (4, (AV.ptr 3 0)), (6, (qI u14.2.2.1)), (7, (AV.ptr 7 0)), (12, (qI u14.2.2.2.1)), (13, (qI u14.2.2.2.2.1)), (30, (qI u14.2.2.2.2.2.1)), (31, (qI u14.2.2.2.2.2.2.1))] [(0, [(AV.list 1 u14.2.2.2.2.2.2.2.1 none)]), (1, [(AV.vs 4 0 u14.2.2.2.2.2.2.2.2.1 1)]), (2, [(AV.list 25 u14.2.2.2.2.2.2.2.2.2.1 none)]), (3, [(AV.vs 5 0 u14.2.2.2.2.2.2.2.2.2.2.1 1)]), (4, u14.2.2.2.2.2.2.2.2.2.2.2.1), (5, u14.2.2.2.2.2.2.2.2.2.2.2.2.1), (7, [(AV.list 29 u14.2.2.2.2.2.2.2.2.2.2.2.2.2 none)])] (jc 14).1.toks 6
 out := fun y => (.exit 2, mkS 58 [(11, (AV.list 1 y.1 none)), (0, (AV.fn (.func 47) [] [])), (2, (AV.ptr 1 0)), (3, (AV.ptr 2 0)), (4, (AV.ptr 3 0)), (12, (qI y.2.1)), (13, (qI y.2.2.1))] [(0, [(AV.list 1 y.2.2.2.1 none)]), (1, [(AV.vs 4 0 y.2.2.2.2.1 1)]), (2, [(AV.list 25 y.2.2.2.2.2.1 none)]), (3, [(AV.vs 5 0 y.2.2.2.2.2.2.1 1)]), (4, y.2.2.2.2.2.2.2.1), (5, y.2.2.2.2.2.2.2.2)] (jc 14).2.toks 6)
 b := fun u14 α kn ke => (match (decide (u14.2.2.2.2.2.2.1 < u14.2.2.2.2.2.1)) with | true => (if 0 <= u14.2.2.2.2.2.2.1 then (match u14.2.1[u14.2.2.2.2.2.2.1.toNat]? with | some c12 => (match zju c12 with | some e13 => (if 0 <= u14.2.2.2.2.2.2.1 /\ u14.2.2.2.2.2.2.1 < (u14.2.2.2.2.2.2.2.2.2.2.1 : Int) then (match u14.2.2.2.2.2.2.2.2.2.2.2.2.1[((0 + u14.2.2.2.2.2.2.1.toNat) * 1)]? with | some x14 => (match x14 with | .v (.bool b15) => (match (!b15) with | true => (match zoc N u14.2.2.2.2.2.2.2.2.2.2.2.2.2 with | some y16 => (match zp3 N ((zx y16), e13) with | some y17 => (match y17 with | true => (if 0 <= u14.2.2.1 /\ u14.2.2.1 < (u14.2.2.2.2.2.2.2.2.1 : Int) then (if ((0 + u14.2.2.1.toNat) * 1) + 1 <= u14.2.2.2.2.2.2.2.2.2.2.2.1.length then (if 0 <= u14.2.2.2.2.2.2.1 /\ u14.2.2.2.2.2.2.1 < (u14.2.2.2.2.2.2.2.2.2.2.1 : Int) then (if ((0 + u14.2.2.2.2.2.2.1.toNat) * 1) + 1 <= u14.2.2.2.2.2.2.2.2.2.2.2.2.1.length then (ke (u14.1, u14.2.2.2.1, u14.2.2.2.2.1, u14.2.2.2.2.2.2.2.1, u14.2.2.2.2.2.2.2.2.1, u14.2.2.2.2.2.2.2.2.2.1, u14.2.2.2.2.2.2.2.2.2.2.1, ((splice u14.2.2.2.2.2.2.2.2.2.2.2.1 ((0 + u14.2.2.1.toNat) * 1) [(AV.v (.int .i64 u14.2.2.2.2.2.2.1))]).map dat0), ((splice u14.2.2.2.2.2.2.2.2.2.2.2.2.1 ((0 + u14.2.2.2.2.2.2.1.toNat) * 1) [(AV.v (.bool true))]).map dat0))) else none) else none) else none) else none) | false => (kn (u14.1, u14.2.1, u14.2.2.1, u14.2.2.2.1, u14.2.2.2.2.1, u14.2.2.2.2.2.1, (i64 (u14.2.2.2.2.2.2.1 + 1)), u14.2.2.2.2.2.2.2.1, u14.2.2.2.2.2.2.2.2.1, u14.2.2.2.2.2.2.2.2.2.1, u14.2.2.2.2.2.2.2.2.2.2.1, (u14.2.2.2.2.2.2.2.2.2.2.2.1.map dat0), (u14.2.2.2.2.2.2.2.2.2.2.2.2.1.map dat0), u14.2.2.2.2.2.2.2.2.2.2.2.2.2))) | none => none) | none => none) | false => (kn (u14.1, u14.2.1, u14.2.2.1, u14.2.2.2.1, u14.2.2.2.2.1, u14.2.2.2.2.2.1, (i64 (u14.2.2.2.2.2.2.1 + 1)), u14.2.2.2.2.2.2.2.1, u14.2.2.2.2.2.2.2.2.1, u14.2.2.2.2.2.2.2.2.2.1, u14.2.2.2.2.2.2.2.2.2.2.1, (u14.2.2.2.2.2.2.2.2.2.2.2.1.map dat0), (u14.2.2.2.2.2.2.2.2.2.2.2.2.1.map dat0), u14.2.2.2.2.2.2.2.2.2.2.2.2.2))) | _ => none) | none => none) else none) | none => none) | none => none) else none) | false => (ke (u14.1, u14.2.2.2.1, u14.2.2.2.2.1, u14.2.2.2.2.2.2.2.1, u14.2.2.2.2.2.2.2.2.1, u14.2.2.2.2.2.2.2.2.2.1, u14.2.2.2.2.2.2.2.2.2.2.1, (u14.2.2.2.2.2.2.2.2.2.2.2.1.map dat0), (u14.2.2.2.2.2.2.2.2.2.2.2.2.1.map dat0))))
abbrev zjv (N : Nat) (x : qL × qL × Int × Int × Int × Int × Int × qL × Nat × qL × Nat × qA × qA × qL) : Option ((qL × Int × Int × qL × Nat × qL × Nat × qA × qA)) := (zV N).L N x
def Zl (N : Nat) : LSpec where
 X := qL × Int × Int × qL × Nat × qL × Nat × qA × qA
 Y := (qL × Nat × qL × Nat × qA × qA)
 p := fun s => zem s.env.length 58 <| zem s.nin 6 <| Z3 1 (s.at 11) fun a0 => pFn 47 (s.at 0) fun c4 c5 => zQ c4 <| zQ c5 <| zbd 1 0 (s.at 2) <| zbd 2 0 (s.at 3) <| zbd 3 0 (s.at 4) <| jQ .i64 (s.at 12) fun a1 => jQ .i64 (s.at 13) fun a2 => Z0 (s.bx 0) fun c12 => zk c12 fun c14 c15 => Z3 1 c14 fun a3 => zQ c15 <| Z0 (s.bx 1) fun c16 => zk c16 fun c18 c19 => zhn 4 1 c18 fun a4 => zQ c19 <| Z0 (s.bx 2) fun c20 => zk c20 fun c22 c23 => Z3 25 c22 fun a5 => zQ c23 <| Z0 (s.bx 3) fun c24 => zk c24 fun c26 c27 => zhn 5 1 c26 fun a6 => zQ c27 <| Z0 (s.bx 4) fun a7 => Z0 (s.bx 5) fun a8 => some (a0, a1, a2, a3, a4, a5, a6, a7, a8)
 st := fun u2 => mkS 58 [(11, (AV.list 1 u2.1 none)), (0, (AV.fn (.func 47) [] [])), (2, (AV.ptr 1 0)), (3, (AV.ptr 2 0)), (4, (AV.ptr 3 0)), (12, (qI u2.2.1)), (13, (qI u2.2.2.1))] [(0, [(AV.list 1 u2.2.2.2.1 none)]), (1, [(AV.vs 4 0 u2.2.2.2.2.1 1)]), (2, [(AV.list 25 u2.2.2.2.2.2.1 none)]), (3, [(AV.vs 5 0 u2.2.2.2.2.2.2.1 1)]), (4, u2.2.2.2.2.2.2.2.1), (5, u2.2.2.2.2.2.2.2.2)] (jc 2).1.toks 6
 out := fun y => (.exit 0, mkS 58 [] [(0, [(AV.list 1 y.1 none)]), (1, [(AV.vs 4 0 y.2.1 1)]), (2, [(AV.list 25 y.2.2.1 none)]), (3, [(AV.vs 5 0 y.2.2.2.1 1)]), (4, y.2.2.2.2.1), (5, y.2.2.2.2.2)] (jc 2).2.toks 6)
 b := fun u2 α kn ke => (match (decide (u2.2.2.1 < u2.2.1)) with | true => (if 0 <= u2.2.2.1 then (match u2.1[u2.2.2.1.toNat]? with | some c19 => (match zfU c19 with | some e20 => (if 0 <= u2.2.2.1 /\ u2.2.2.1 < (u2.2.2.2.2.1 : Int) then (match u2.2.2.2.2.2.2.2.1[((0 + u2.2.2.1.toNat) * 1)]? with | some x21 => (match x21 with | .v (.int q23 n22) => (if q23 = .i64 then (match (decide (n22 >= 0)) with | true => (kn (u2.1, u2.2.1, (i64 (u2.2.2.1 + 1)), u2.2.2.2.1, u2.2.2.2.2.1, u2.2.2.2.2.2.1, u2.2.2.2.2.2.2.1, (u2.2.2.2.2.2.2.2.1.map dat0), (u2.2.2.2.2.2.2.2.2.map dat0))) | false => (match ((e20.1.length : Int) == 0) with | true => (kn (u2.1, u2.2.1, (i64 (u2.2.2.1 + 1)), u2.2.2.2.1, u2.2.2.2.2.1, u2.2.2.2.2.2.1, u2.2.2.2.2.2.2.1, (u2.2.2.2.2.2.2.2.1.map dat0), (u2.2.2.2.2.2.2.2.2.map dat0))) | false => (match zjv N (u2.1, u2.2.2.2.2.2.1, u2.2.2.1, u2.2.1, u2.2.2.1, (u2.2.2.2.2.2.1.length : Int), 0, u2.2.2.2.1, u2.2.2.2.2.1, u2.2.2.2.2.2.1, u2.2.2.2.2.2.2.1, (u2.2.2.2.2.2.2.2.1.map dat0), (u2.2.2.2.2.2.2.2.2.map dat0), e20.1) with | some y24 => (kn (y24.1, y24.2.1, (i64 (y24.2.2.1 + 1)), y24.2.2.2.1, y24.2.2.2.2.1, y24.2.2.2.2.2.1, y24.2.2.2.2.2.2.1, (y24.2.2.2.2.2.2.2.1.map dat0), (y24.2.2.2.2.2.2.2.2.map dat0))) | none => none))) else none) | _ => none) | none => none) else none) | none => none) | none => none) else none) | false => (ke (u2.2.2.2.1, u2.2.2.2.2.1, u2.2.2.2.2.2.1, u2.2.2.2.2.2.2.1, (u2.2.2.2.2.2.2.2.1.map dat0), (u2.2.2.2.2.2.2.2.2.map dat0))))
abbrev zoR (N : Nat) (x : qL × Int × Int × qL × Nat × qL × Nat × qA × qA) : Option ((qL × Nat × qL × Nat × qA × qA)) := (Zl N).L N x
def zaq (N : Nat) : FSpec where
 X := qL × Nat × qL × Nat × qA × qA
 Y := qL × Nat × qL × Nat × qA × qA
 ash := [[none], [none], [none], [none], [none]]
 bsh := [[some 1], [none], [some 25], [none], [], []]
 S := ⟨[], [[some 1], [some 2000001], [some 25], [some 2000001], [], []], [], [], [4, 5]⟩
 pat := fun a b => zk a fun v1 c2 => pFn 47 v1 fun c3 c4 => zQ c3 <| zQ c4 <| zk c2 fun v5 c6 => zbd 0 0 v5 <| zk c6 fun v7 c8 => zbd 1 0 v7 <| zk c8 fun v9 c10 => zbd 2 0 v9 <| zk c10 fun v11 c12 => zbd 3 0 v11 <| zQ c12 <| zk b fun v13 c14 => zk v13 fun c15 c16 => Z3 1 c15 fun a0 => zQ c16 <| zk c14 fun v17 c18 => zk v17 fun c19 c20 => zhn 4 1 c19 fun a1 => zQ c20 <| zk c18 fun v21 c22 => zk v21 fun c23 c24 => Z3 25 c23 fun a2 => zQ c24 <| zk c22 fun v25 c26 => zk v25 fun c27 c28 => zhn 5 1 c27 fun a3 => zQ c28 <| zk c26 fun a4 c29 => zk c29 fun a5 c30 => zQ c30 <| some (a0, a1, a2, a3, a4, a5)
 args := fun x => [(AV.fn (.func 47) [] []), (AV.ptr 0 0), (AV.ptr 1 0), (AV.ptr 2 0), (AV.ptr 3 0)]
 bs := fun x => [[(AV.list 1 x.1 none)], [(AV.vs 4 0 x.2.1 1)], [(AV.list 25 x.2.2.1 none)], [(AV.vs 5 0 x.2.2.2.1 1)], x.2.2.2.2.1, x.2.2.2.2.2]
 ret := fun y => ⟨(AV.tup []), [[(AV.list 1 y.1 none)], [(AV.vs 4 0 y.2.1 1)], [(AV.list 25 y.2.2.1 none)], [(AV.vs 5 0 y.2.2.2.1 1)], y.2.2.2.2.1, y.2.2.2.2.2], none, [], [], [4, 5], none⟩
 t := fun x α k => (match zoR N (x.1, (x.1.length : Int), 0, x.1, x.2.1, x.2.2.1, x.2.2.2.1, (x.2.2.2.2.1.map dat0), (x.2.2.2.2.2.map dat0)) with | some y25 => (k (y25.1, y25.2.1, y25.2.2.1, y25.2.2.2.1, (y25.2.2.2.2.1.map dat0), (y25.2.2.2.2.2.map dat0))) | none => none)
abbrev zmG (N : Nat) (x : qL × Nat × qL × Nat × qA × qA) : Option (qL × Nat × qL × Nat × qA × qA) := (zaq N).d x
def J7 (N : Nat) : List (Nat × LSpec) := [(2, Zl N), (14, zV N)]
def za6 : Code := Tryd.f45.body.getD .skip
theorem zkW (N : Nat) : Par (zV N).b := by
 intro x α β kn ke kn' ke' r r' h h1 h2
 revert h
 dsimp only [zV]
 (repeat' (first | (with_reducible refine ze ?_ ?_) | split)) <;> intro h <;> first | exact h1 _ h | exact h2 _ h | cases h
theorem ziz (N : Nat) : ji (zn qP) (zp0 N) jc N (J7 N) 14 za6 (zV N) := fun x α kn ke => by kernel_rfl
theorem zkU (N : Nat) (s : AS) (x : (zV N).X) (hc : s = ZM (jc 14).1 s) (h : (zV N).p s = some x) : s = (zV N).st x := by
 replace h : zem _ _ _ = some x := h
 obtain ⟨h1, g0⟩ := jy h
 obtain ⟨h2, g1⟩ := jy g0; clear g0
 obtain ⟨a0, h3, g2⟩ := zr g1; clear g1
 obtain ⟨a1, h4, g3⟩ := zr g2; clear g2
 obtain ⟨c5, c6, h7, g4⟩ := zat g3; clear g3
 obtain ⟨rfl, g5⟩ := zg g4; clear g4
 obtain ⟨rfl, g6⟩ := zg g5; clear g5
 obtain ⟨h8, g7⟩ := Zb g6; clear g6
 obtain ⟨h9, g8⟩ := Zb g7; clear g7
 obtain ⟨h10, g9⟩ := Zb g8; clear g8
 obtain ⟨a2, h11, g10⟩ := zC g9; clear g9
 obtain ⟨h12, g11⟩ := Zb g10; clear g10
 obtain ⟨a3, h13, g12⟩ := zC g11; clear g11
 obtain ⟨a4, h14, g13⟩ := zC g12; clear g12
 obtain ⟨a5, h15, g14⟩ := zC g13; clear g13
 obtain ⟨a6, h16, g15⟩ := zC g14; clear g14
 obtain ⟨c17, h18, g16⟩ := zO g15; clear g15
 obtain ⟨c19, c20, rfl, g17⟩ := zb g16; clear g16
 obtain ⟨a7, rfl, g18⟩ := zr g17; clear g17
 obtain ⟨rfl, g19⟩ := zg g18; clear g18
 obtain ⟨c21, h22, g20⟩ := zO g19; clear g19
 obtain ⟨c23, c24, rfl, g21⟩ := zb g20; clear g20
 obtain ⟨a8, rfl, g22⟩ := jl g21; clear g21
 obtain ⟨rfl, g23⟩ := zg g22; clear g22
 obtain ⟨c25, h26, g24⟩ := zO g23; clear g23
 obtain ⟨c27, c28, rfl, g25⟩ := zb g24; clear g24
 obtain ⟨a9, rfl, g26⟩ := zr g25; clear g25
 obtain ⟨rfl, g27⟩ := zg g26; clear g26
 obtain ⟨c29, h30, g28⟩ := zO g27; clear g27
 obtain ⟨c31, c32, rfl, g29⟩ := zb g28; clear g28
 obtain ⟨a10, rfl, g30⟩ := jl g29; clear g29
 obtain ⟨rfl, g31⟩ := zg g30; clear g30
 obtain ⟨a11, h33, g32⟩ := zO g31; clear g31
 obtain ⟨a12, h34, g33⟩ := zO g32; clear g32
 obtain ⟨c35, h36, g34⟩ := zO g33; clear g33
 obtain ⟨c37, c38, rfl, g35⟩ := zb g34; clear g34
 obtain ⟨a13, rfl, g36⟩ := zr g35; clear g35
 obtain ⟨rfl, g37⟩ := zg g36; clear g36
 clear h
 cases g37
 exact JF hc h1 h2 rfl rfl rfl rfl ⟨h3, h4, h7, h8, h9, h10, h11, h12, h13, h14, h15, h16, trivial⟩ ⟨h18, h22, h26, h30, h33, h34, h36, trivial⟩
theorem zdn (N : Nat) : ZK qP jc N (J7 N) 14 (zc 14 za6) :=
 zD (zd qP) (zi _) zl jc N (J7 N) 14 za6 (l := []) (by kernel_rfl) (by kernel_rfl) an (zV N) rfl (zkU N) (fun _ => rfl) (ziz N) (zkW N)
theorem zpN (N : Nat) : Par (Zl N).b := by
 intro x α β kn ke kn' ke' r r' h h1 h2
 revert h
 dsimp only [Zl]
 (repeat' (first | (with_reducible refine ze ?_ ?_) | split)) <;> intro h <;> first | exact h1 _ h | exact h2 _ h | cases h
theorem zk0 (N : Nat) : ji (zn qP) (zp0 N) jc N (J7 N) 2 za6 (Zl N) := fun x α kn ke => by kernel_rfl
theorem zp8 (N : Nat) (s : AS) (x : (Zl N).X) (hc : s = ZM (jc 2).1 s) (h : (Zl N).p s = some x) : s = (Zl N).st x := by
 replace h : zem _ _ _ = some x := h
 obtain ⟨h1, g0⟩ := jy h
 obtain ⟨h2, g1⟩ := jy g0; clear g0
 obtain ⟨a0, h3, g2⟩ := zr g1; clear g1
 obtain ⟨c4, c5, h6, g3⟩ := zat g2; clear g2
 obtain ⟨rfl, g4⟩ := zg g3; clear g3
 obtain ⟨rfl, g5⟩ := zg g4; clear g4
 obtain ⟨h7, g6⟩ := Zb g5; clear g5
 obtain ⟨h8, g7⟩ := Zb g6; clear g6
 obtain ⟨h9, g8⟩ := Zb g7; clear g7
 obtain ⟨a1, h10, g9⟩ := zC g8; clear g8
 obtain ⟨a2, h11, g10⟩ := zC g9; clear g9
 obtain ⟨c12, h13, g11⟩ := zO g10; clear g10
 obtain ⟨c14, c15, rfl, g12⟩ := zb g11; clear g11
 obtain ⟨a3, rfl, g13⟩ := zr g12; clear g12
 obtain ⟨rfl, g14⟩ := zg g13; clear g13
 obtain ⟨c16, h17, g15⟩ := zO g14; clear g14
 obtain ⟨c18, c19, rfl, g16⟩ := zb g15; clear g15
 obtain ⟨a4, rfl, g17⟩ := jl g16; clear g16
 obtain ⟨rfl, g18⟩ := zg g17; clear g17
 obtain ⟨c20, h21, g19⟩ := zO g18; clear g18
 obtain ⟨c22, c23, rfl, g20⟩ := zb g19; clear g19
 obtain ⟨a5, rfl, g21⟩ := zr g20; clear g20
 obtain ⟨rfl, g22⟩ := zg g21; clear g21
 obtain ⟨c24, h25, g23⟩ := zO g22; clear g22
 obtain ⟨c26, c27, rfl, g24⟩ := zb g23; clear g23
 obtain ⟨a6, rfl, g25⟩ := jl g24; clear g24
 obtain ⟨rfl, g26⟩ := zg g25; clear g25
 obtain ⟨a7, h28, g27⟩ := zO g26; clear g26
 obtain ⟨a8, h29, g28⟩ := zO g27; clear g27
 clear h
 cases g28
 exact JF hc h1 h2 rfl rfl rfl rfl ⟨h3, h6, h7, h8, h9, h10, h11, trivial⟩ ⟨h13, h17, h21, h25, h28, h29, trivial⟩
theorem zlJ (N : Nat) : ZK qP jc N (J7 N) 2 (zc 2 za6) :=
 zD (zd qP) (zi _) zl jc N (J7 N) 2 za6 (l := [(14, zc 14 za6)]) (by kernel_rfl) (by kernel_rfl) (al (zdn N) an) (Zl N) rfl (zp8 N) (fun _ => rfl) (zk0 N) (zpN N)
theorem zpA (N : Nat) : Zd (zaq N).t := by
 intro x α β k k' r r' h h1
 revert h
 dsimp only [zaq]
 (repeat' (first | (with_reducible refine ze ?_ ?_) | split)) <;> intro h <;> first | exact h1 _ h | cases h
theorem zqr (N : Nat) : Zh (zn qP) (zp0 N) jc (lam N (J7 N)) Tryd.f45 (zaq N) := fun x => by kernel_rfl
theorem ztR (N : Nat) (a : List AV) (b : qL) (x : (zaq N).X) (h : (zaq N).pat a b = some x) : a = (zaq N).args x /\ b = (zaq N).bs x := by
 obtain ⟨v1, c2, rfl, g0⟩ := zb (show zk _ _ = some x from h)
 obtain ⟨c3, c4, rfl, g1⟩ := zat g0; clear g0
 obtain ⟨rfl, g2⟩ := zg g1; clear g1
 obtain ⟨rfl, g3⟩ := zg g2; clear g2
 obtain ⟨v5, c6, rfl, g4⟩ := zb g3; clear g3
 obtain ⟨rfl, g5⟩ := Zb g4; clear g4
 obtain ⟨v7, c8, rfl, g6⟩ := zb g5; clear g5
 obtain ⟨rfl, g7⟩ := Zb g6; clear g6
 obtain ⟨v9, c10, rfl, g8⟩ := zb g7; clear g7
 obtain ⟨rfl, g9⟩ := Zb g8; clear g8
 obtain ⟨v11, c12, rfl, g10⟩ := zb g9; clear g9
 obtain ⟨rfl, g11⟩ := Zb g10; clear g10
 obtain ⟨rfl, g12⟩ := zg g11; clear g11
 obtain ⟨v13, c14, rfl, g13⟩ := zb g12; clear g12
 obtain ⟨c15, c16, rfl, g14⟩ := zb g13; clear g13
 obtain ⟨a0, rfl, g15⟩ := zr g14; clear g14
 obtain ⟨rfl, g16⟩ := zg g15; clear g15
 obtain ⟨v17, c18, rfl, g17⟩ := zb g16; clear g16
 obtain ⟨c19, c20, rfl, g18⟩ := zb g17; clear g17
 obtain ⟨a1, rfl, g19⟩ := jl g18; clear g18
 obtain ⟨rfl, g20⟩ := zg g19; clear g19
 obtain ⟨v21, c22, rfl, g21⟩ := zb g20; clear g20
 obtain ⟨c23, c24, rfl, g22⟩ := zb g21; clear g21
 obtain ⟨a2, rfl, g23⟩ := zr g22; clear g22
 obtain ⟨rfl, g24⟩ := zg g23; clear g23
 obtain ⟨v25, c26, rfl, g25⟩ := zb g24; clear g24
 obtain ⟨c27, c28, rfl, g26⟩ := zb g25; clear g25
 obtain ⟨a3, rfl, g27⟩ := jl g26; clear g26
 obtain ⟨rfl, g28⟩ := zg g27; clear g27
 obtain ⟨a4, c29, rfl, g29⟩ := zb g28; clear g28
 obtain ⟨a5, c30, rfl, g30⟩ := zb g29; clear g29
 obtain ⟨rfl, g31⟩ := zg g30; clear g30
 clear h
 cases g31
 exact ⟨rfl, rfl⟩
def zAs (N : Nat) : Ent qP := zy (zd qP) (zi _) zl 45 Tryd.f45 Tryd.func45 rfl jc (lam N (J7 N)) (zm (l := [(2, zc 2 za6), (14, zc 14 za6)]) (al (zlJ N) (al (zdn N) an)) (by kernel_rfl)) (zaq N) (fun _ => ⟨rfl, rfl⟩) (zqr N) (ztR N) (zpA N)
def zwX : Nat -> Keep × Keep := anF [] [(100006, ([], [((5, 0), 1)]))]
def zEj (N : Nat) : GamK := gam (P := qP) [zBv N, zDS N, zAs N]
def zd3 (N : Nat) : FSpec where
 X := qL × qL
 Y := qL
 ash := [[some 1], [some 25]]
 S := ⟨[[some 2000001]], [], [], [], []⟩
 pat := fun a b => zk a fun v1 c2 => jg v1 fun c3 => zk c3 fun c4 c5 => Z3 1 c4 fun a0 => zQ c5 <| zk c2 fun v6 c7 => Z3 25 v6 fun a1 => zQ c7 <| zQ b <| some (a0, a1)
 args := fun x => [(AV.agg [(AV.list 1 x.1 none)]), (AV.list 25 x.2 none)]
 ret := fun y => ⟨(AV.list 1 y (some 2560000000)), [], none, [], [2560000000], [], none⟩
 t := fun x α k => (match zwl N ([[(AV.v (.int .i64 (-1)))]], (x.1.length : Int)) with | some y1 => (if 0 <= (x.2.length : Int) /\ (x.2.length : Int) <= (x.2.length : Int) /\ (x.2.length : Int).toNat * 1 <= zh then (match zyI N (x.1, y1.1, x.2, ((x.2.length : Int).toNat), ((y1.2.map dat0).map dat0), ((List.replicate (x.2.length : Int).toNat (AV.v (.bool false))).map dat0)) with | some y2 => (match zmG N (y2.1, y2.2.1, y2.2.2.1, y2.2.2.2.1, (y2.2.2.2.2.1.map dat0), (y2.2.2.2.2.2.map dat0)) with | some y3 => (if y3.2.1 * 1 <= y3.2.2.2.2.1.length then (k (zK (y3.2.2.2.2.1.take (y3.2.1 * 1)) 1 y3.2.1)) else none) | none => none) | none => none) else none) | none => none)
abbrev zsL (N : Nat) (x : qL × qL) : Option (qL) := (zd3 N).d x
theorem zt0 (N : Nat) : Zd (zd3 N).t := by
 intro x α β k k' r r' h h1
 revert h
 dsimp only [zd3]
 (repeat' (first | (with_reducible refine ze ?_ ?_) | split)) <;> intro h <;> first | exact h1 _ h | cases h
theorem zs7 (N : Nat) : Zh (JT qP [12]) (zEj N) zwX (lam N []) Tryd.f13 (zd3 N) := fun x => by kernel_rfl
theorem zxY (N : Nat) (a : List AV) (b : qL) (x : (zd3 N).X) (h : (zd3 N).pat a b = some x) : a = (zd3 N).args x /\ b = (zd3 N).bs x := by
 obtain ⟨v1, c2, rfl, g0⟩ := zb (show zk _ _ = some x from h)
 obtain ⟨c3, rfl, g1⟩ := zR g0; clear g0
 obtain ⟨c4, c5, rfl, g2⟩ := zb g1; clear g1
 obtain ⟨a0, rfl, g3⟩ := zr g2; clear g2
 obtain ⟨rfl, g4⟩ := zg g3; clear g3
 obtain ⟨v6, c7, rfl, g5⟩ := zb g4; clear g4
 obtain ⟨a1, rfl, g6⟩ := zr g5; clear g5
 obtain ⟨rfl, g7⟩ := zg g6; clear g6
 obtain ⟨rfl, g8⟩ := zg g7; clear g7
 clear h
 cases g8
 exact ⟨rfl, rfl⟩
def zDq (N : Nat) : Ent qP := zy (zL qP [12]) (zi _) zl 13 Tryd.f13 Tryd.func13 rfl zwX (lam N []) (zm (l := []) an (by kernel_rfl)) (zd3 N) (fun _ => ⟨rfl, rfl⟩) (zs7 N) (zxY N) (zt0 N)
end
end Go.Proofs.YthdgnfcbehcplaaDoor
end
section
namespace Go.Proofs.YthdgnfcbehcplaaDoor
noncomputable section
open Go.RowKit
set_option maxRecDepth 4000
set_option maxHeartbeats 4000000
def zv0 : Nat -> Keep × Keep := anL []
def zDg (N : Nat) : GamK := gam (P := qP) []
def zef (N : Nat) : FSpec where
 X := qL × Int
 Y := Bool
 ash := [[some 1], [none]]
 S := ⟨[[none]], [], [], [], []⟩
 pat := fun a b => zk a fun v1 c2 => jg v1 fun c3 => zk c3 fun c4 c5 => Z3 1 c4 fun a0 => zQ c5 <| zk c2 fun v6 c7 => jQ .i64 v6 fun a1 => zQ c7 <| zQ b <| some (a0, a1)
 args := fun x => [(AV.agg [(AV.list 1 x.1 none)]), (AV.v (.int .i64 x.2))]
 ret := fun y => ⟨(AV.v (.bool y)), [], none, [], [], [], none⟩
 t := fun x α k => (match (decide (x.2 >= 0)) with | true => (k (decide (x.2 < (x.1.length : Int)))) | false => (k false))
abbrev zpp (N : Nat) (x : qL × Int) : Option (Bool) := (zef N).d x
theorem zvc (N : Nat) : Zd (zef N).t := by
 intro x α β k k' r r' h h1
 revert h
 dsimp only [zef]
 (repeat' (first | (with_reducible refine ze ?_ ?_) | split)) <;> intro h <;> first | exact h1 _ h | cases h
theorem zsf (N : Nat) : Zh (zn qP) (zDg N) zv0 (lam N []) Tryd.f75 (zef N) := fun x => by kernel_rfl
theorem zzF (N : Nat) (a : List AV) (b : qL) (x : (zef N).X) (h : (zef N).pat a b = some x) : a = (zef N).args x /\ b = (zef N).bs x := by
 obtain ⟨v1, c2, rfl, g0⟩ := zb (show zk _ _ = some x from h)
 obtain ⟨c3, rfl, g1⟩ := zR g0; clear g0
 obtain ⟨c4, c5, rfl, g2⟩ := zb g1; clear g1
 obtain ⟨a0, rfl, g3⟩ := zr g2; clear g2
 obtain ⟨rfl, g4⟩ := zg g3; clear g3
 obtain ⟨v6, c7, rfl, g5⟩ := zb g4; clear g4
 obtain ⟨a1, rfl, g6⟩ := zC g5; clear g5
 obtain ⟨rfl, g7⟩ := zg g6; clear g6
 obtain ⟨rfl, g8⟩ := zg g7; clear g7
 clear h
 cases g8
 exact ⟨rfl, rfl⟩
def zEw (N : Nat) : Ent qP := zy (zd qP) (zi _) zl 75 Tryd.f75 Tryd.func75 rfl zv0 (lam N []) (zm (l := []) an (by kernel_rfl)) (zef N) (fun _ => ⟨rfl, rfl⟩) (zsf N) (zzF N) (zvc N)
def zwt : Nat -> Keep × Keep := anL []
def zD0 (N : Nat) : GamK := gam (P := qP) []
def zl9 (N : Nat) : FSpec where
 X := Int
 Y := Bool
 ash := [[none]]
 S := ⟨[[none]], [], [], [], []⟩
 pat := fun a b => rdA [.int .i64] [] a b fun ⟨a0, _⟩ _ => a0
 args := fun x => [(AV.v (.int .i64 x))]
 ret := fun y => ⟨(AV.v (.bool y)), [], none, [], [], [], none⟩
 t := fun x α k => (if 0 <= x /\ x < 7 then (match ((gtab3.map AV.v).drop (x.toNat * 1))[0]? with | some x1 => (match x1 with | .v (.bool b2) => (match b2 with | true => (k true) | false => (k (x == 6))) | _ => none) | none => none) else none)
abbrev zuN (N : Nat) (x : Int) : Option (Bool) := (zl9 N).d x
theorem zuD (N : Nat) : Zd (zl9 N).t := by
 intro x α β k k' r r' h h1
 revert h
 dsimp only [zl9]
 (repeat' (first | (with_reducible refine ze ?_ ?_) | split)) <;> intro h <;> first | exact h1 _ h | cases h
theorem zuM (N : Nat) : Zh (zn qP) (zD0 N) zwt (lam N []) Tryd.f37 (zl9 N) := fun x => by kernel_rfl
def zAw (N : Nat) : Ent qP := zy (zd qP) (zi _) zl 37 Tryd.f37 Tryd.func37 rfl zwt (lam N []) (zm (l := []) an (by kernel_rfl)) (zl9 N) (fun _ => ⟨rfl, rfl⟩) (zuM N) (fun _ _ _ h => zu h (fun _ _ => rfl) (fun _ _ => rfl)) (zuD N)
def jC : Nat -> Keep × Keep := anL [(5, ⟨[2, 3, 11, 12], [], [2, 3], [(10, 1)], [((2, 0), 1)], [], [((3, 0), 1)], [], false, some 2012288, []⟩, ⟨[2, 3], [], [2, 3], [], [((2, 0), 1)], [], [((3, 0), 1)], [], false, some 2012288, []⟩), (16, ⟨[2, 3, 11, 12, 18, 19], [(6, 29)], [2, 3], [(10, 1), (17, 29)], [((2, 0), 1)], [], [((3, 0), 1)], [], false, some 2012288, []⟩, ⟨[2, 3, 11, 12], [(6, 29)], [2, 3], [(10, 1)], [((2, 0), 1)], [], [((3, 0), 1)], [], false, some 2012288, []⟩)]
def zpQ (N : Nat) : GamK := gam (P := qP) [zvl N]
def Zs (N : Nat) : LSpec where
 X := qL × qL × qL × Int × Int × Int × Int × qL × Nat × qA × Nat × Nat
 Y := (qL × qL × Int × Int × qL × Nat × qA × Nat × Nat)
 p := fun s => rdF 41 0 2012288 [(6, .tok 29 1280000384), (10, .lst 1), (17, .lst 29), (2, .ptr 2 0), (3, .ptr 3 0), (11, .int .i64), (12, .int .i64), (18, .int .i64), (19, .int .i64)] [(2, .cells [.tok 1 6400524288]), (3, .cells [.vs0 2012288 1]), (2012288, .tt)] s fun ⟨a0, a1, a2, _, _, a3, a4, a5, a6, _⟩ ⟨⟨a7, _⟩, ⟨a8, _⟩, a9, _⟩ a10 a11 => (a0, a1, a2, a3, a4, a5, a6, a7, a8, a9, a10, a11)
 st := fun u16 => mkF 41 [(6, (AV.list 29 u16.1 (some 1280000384))), (10, (AV.list 1 u16.2.1 none)), (17, (AV.list 29 u16.2.2.1 none)), (2, (AV.ptr 2 0)), (3, (AV.ptr 3 0)), (11, (qI u16.2.2.2.1)), (12, (qI u16.2.2.2.2.1)), (18, (qI u16.2.2.2.2.2.1)), (19, (qI u16.2.2.2.2.2.2.1))] [(2, [(AV.list 1 u16.2.2.2.2.2.2.2.1 (some 6400524288))]), (3, [(AV.vs 2012288 0 u16.2.2.2.2.2.2.2.2.1 1)]), (2012288, u16.2.2.2.2.2.2.2.2.2.1)] (jC 16).1.toks 0 (some (2012288, u16.2.2.2.2.2.2.2.2.2.2.1, u16.2.2.2.2.2.2.2.2.2.2.2))
 out := fun y => (.exit 2, mkF 41 [(6, (AV.list 29 y.1 (some 1280000384))), (10, (AV.list 1 y.2.1 none)), (2, (AV.ptr 2 0)), (3, (AV.ptr 3 0)), (11, (qI y.2.2.1)), (12, (qI y.2.2.2.1))] [(2, [(AV.list 1 y.2.2.2.2.1 (some 6400524288))]), (3, [(AV.vs 2012288 0 y.2.2.2.2.2.1 1)]), (2012288, y.2.2.2.2.2.2.1)] (jC 16).2.toks 0 (some (2012288, y.2.2.2.2.2.2.2.1, y.2.2.2.2.2.2.2.2)))
 b := fun u16 α kn ke => (match (decide (u16.2.2.2.2.2.2.1 < u16.2.2.2.2.2.1)) with | true => (if 0 <= u16.2.2.2.2.2.2.1 then (match u16.2.2.1[u16.2.2.2.2.2.2.1.toNat]? with | some c6 => (match zlq c6 with | some e7 => (match zdq N (zx e7) with | some y8 => (if (u16.1.length + [(zN (e7.1, e7.2.1, e7.2.2.1, e7.2.2.2.1, y8))].length) * 288 <= zh then (kn ((u16.1 ++ [(zN (e7.1, e7.2.1, e7.2.2.1, e7.2.2.2.1, y8))]), u16.2.1, u16.2.2.1, u16.2.2.2.1, u16.2.2.2.2.1, u16.2.2.2.2.2.1, (i64 (u16.2.2.2.2.2.2.1 + 1)), u16.2.2.2.2.2.2.2.1, u16.2.2.2.2.2.2.2.2.1, (u16.2.2.2.2.2.2.2.2.2.1.map datF), u16.2.2.2.2.2.2.2.2.2.2)) else none) | none => none) | none => none) | none => none) else none) | false => (ke (u16.1, u16.2.1, u16.2.2.2.1, u16.2.2.2.2.1, u16.2.2.2.2.2.2.2.1, u16.2.2.2.2.2.2.2.2.1, (u16.2.2.2.2.2.2.2.2.2.1.map datF), u16.2.2.2.2.2.2.2.2.2.2)))
abbrev zjE (N : Nat) (x : qL × qL × qL × Int × Int × Int × Int × qL × Nat × qA × Nat × Nat) : Option ((qL × qL × Int × Int × qL × Nat × qA × Nat × Nat)) := (Zs N).L N x
def ZT (N : Nat) : LSpec where
 X := qL × Int × Int × qL × Nat × qA × Nat × Nat
 Y := (qL × Nat × qA × Nat × Nat)
 p := fun s => rdF 41 0 2012288 [(10, .lst 1), (2, .ptr 2 0), (3, .ptr 3 0), (11, .int .i64), (12, .int .i64)] [(2, .cells [.tok 1 6400524288]), (3, .cells [.vs0 2012288 1]), (2012288, .tt)] s fun ⟨a0, _, _, a1, a2, _⟩ ⟨⟨a3, _⟩, ⟨a4, _⟩, a5, _⟩ a6 a7 => (a0, a1, a2, a3, a4, a5, a6, a7)
 st := fun u5 => mkF 41 [(10, (AV.list 1 u5.1 none)), (2, (AV.ptr 2 0)), (3, (AV.ptr 3 0)), (11, (qI u5.2.1)), (12, (qI u5.2.2.1))] [(2, [(AV.list 1 u5.2.2.2.1 (some 6400524288))]), (3, [(AV.vs 2012288 0 u5.2.2.2.2.1 1)]), (2012288, u5.2.2.2.2.2.1)] (jC 5).1.toks 0 (some (2012288, u5.2.2.2.2.2.2.1, u5.2.2.2.2.2.2.2))
 out := fun y => (.exit 0, mkF 41 [(2, (AV.ptr 2 0)), (3, (AV.ptr 3 0))] [(2, [(AV.list 1 y.1 (some 6400524288))]), (3, [(AV.vs 2012288 0 y.2.1 1)]), (2012288, y.2.2.1)] (jC 5).2.toks 0 (some (2012288, y.2.2.2.1, y.2.2.2.2)))
 b := fun u5 α kn ke => (match (decide (u5.2.2.1 < u5.2.1)) with | true => (if 0 <= u5.2.2.1 then (match u5.1[u5.2.2.1.toNat]? with | some c10 => (match zfU c10 with | some e11 => (match zjE N (([] : qL), u5.1, e11.1, u5.2.1, u5.2.2.1, (e11.1.length : Int), 0, u5.2.2.2.1, u5.2.2.2.2.1, (u5.2.2.2.2.2.1.map datF), u5.2.2.2.2.2.2) with | some y12 => (if (y12.2.2.2.2.2.2.2.2 = y12.2.2.2.2.2.1 /\ y12.2.2.2.2.2.2.2.1 <= y12.2.2.2.2.2.2.2.2) /\ y12.2.2.2.2.2.1 * 1 <= y12.2.2.2.2.2.2.1.length /\ (y12.2.2.2.2.2.1 + 1) * 24 <= zh then (kn (y12.2.1, y12.2.2.1, (i64 (y12.2.2.2.1 + 1)), y12.2.2.2.2.1, (y12.2.2.2.2.2.1 + 1), ((y12.2.2.2.2.2.2.1.take (y12.2.2.2.2.2.1 * 1) ++ [AV.list 29 y12.1 (some (TOB + y12.2.2.2.2.2.2.2.2))]).map datF), y12.2.2.2.2.2.2.2.1, (y12.2.2.2.2.2.2.2.2 + 1))) else none) | none => none) | none => none) | none => none) else none) | false => (ke (u5.2.2.2.1, u5.2.2.2.2.1, (u5.2.2.2.2.2.1.map datF), u5.2.2.2.2.2.2)))
abbrev zoh (N : Nat) (x : qL × Int × Int × qL × Nat × qA × Nat × Nat) : Option ((qL × Nat × qA × Nat × Nat)) := (ZT N).L N x
def zap (N : Nat) : FSpec where
 X := qL
 Y := Nat × qA × Nat × Nat
 ash := [[some 1]]
 S := ⟨[[some 1]], [], [], [], []⟩
 bm := true
 pat := fun a b => zk a fun v1 c2 => jg v1 fun c3 => zk c3 fun c4 c5 => Z3 1 c4 fun a0 => zQ c5 <| zQ c2 <| zQ b <| some a0
 args := fun x => [(AV.agg [(AV.list 1 x none)])]
 ret := fun y => ⟨(AV.agg [(AV.vs 0 0 y.1 1)]), [], some y.2.1, [], [], [], some (y.2.2.1, y.2.2.2)⟩
 t := fun x α k => (match zoh N (x, (x.length : Int), 0, ([] : qL), 0, ([] : List AV), 0, 0) with | some y13 => (k (y13.2.1, (y13.2.2.1.map datF), y13.2.2.2)) | none => none)
abbrev zjh (N : Nat) (x : qL) : Option (Nat × qA × Nat × Nat) := (zap N).d x
def JZ (N : Nat) : List (Nat × LSpec) := [(5, ZT N), (16, Zs N)]
def zaR : Code := Tryd.f35.body.getD .skip
theorem zll (N : Nat) : Par (Zs N).b := by
 intro x α β kn ke kn' ke' r r' h h1 h2
 revert h
 dsimp only [Zs]
 (repeat' (first | (with_reducible refine ze ?_ ?_) | split)) <;> intro h <;> first | exact h1 _ h | exact h2 _ h | cases h
theorem zic (N : Nat) : ji (JT qP [36, 37]) (zpQ N) jC N (JZ N) 16 zaR (Zs N) := fun x α kn ke => by kernel_rfl
theorem zc7 (N : Nat) : ZK qP jC N (JZ N) 16 (zc 16 zaR) :=
 zD (zL qP [36, 37]) (zi _) zl jC N (JZ N) 16 zaR (l := []) (by kernel_rfl) (by kernel_rfl) an (Zs N) rfl (fun s x hc h => by dsimp only [Zs] at h; exact za0 hc h (fun _ _ _ _ => rfl) rfl rfl) (fun _ => rfl) (zic N) (zll N)
theorem zmR (N : Nat) : Par (ZT N).b := by
 intro x α β kn ke kn' ke' r r' h h1 h2
 revert h
 dsimp only [ZT]
 (repeat' (first | (with_reducible refine ze ?_ ?_) | split)) <;> intro h <;> first | exact h1 _ h | exact h2 _ h | cases h
theorem zkE (N : Nat) : ji (JT qP [36, 37]) (zpQ N) jC N (JZ N) 5 zaR (ZT N) := fun x α kn ke => by kernel_rfl
theorem zlr (N : Nat) : ZK qP jC N (JZ N) 5 (zc 5 zaR) :=
 zD (zL qP [36, 37]) (zi _) zl jC N (JZ N) 5 zaR (l := [(16, zc 16 zaR)]) (by kernel_rfl) (by kernel_rfl) (al (zc7 N) an) (ZT N) rfl (fun s x hc h => by dsimp only [ZT] at h; exact za0 hc h (fun _ _ _ _ => rfl) rfl rfl) (fun _ => rfl) (zkE N) (zmR N)
theorem znl (N : Nat) : Zd (zap N).t := by
 intro x α β k k' r r' h h1
 revert h
 dsimp only [zap]
 (repeat' (first | (with_reducible refine ze ?_ ?_) | split)) <;> intro h <;> first | exact h1 _ h | cases h
theorem zo0 (N : Nat) : Zh (JT qP [36, 37]) (zpQ N) jC (lam N (JZ N)) Tryd.f35 (zap N) := fun x => by kernel_rfl
theorem ztV (N : Nat) (a : List AV) (b : qL) (x : (zap N).X) (h : (zap N).pat a b = some x) : a = (zap N).args x /\ b = (zap N).bs x := by
 obtain ⟨v1, c2, rfl, g0⟩ := zb (show zk _ _ = some x from h)
 obtain ⟨c3, rfl, g1⟩ := zR g0; clear g0
 obtain ⟨c4, c5, rfl, g2⟩ := zb g1; clear g1
 obtain ⟨a0, rfl, g3⟩ := zr g2; clear g2
 obtain ⟨rfl, g4⟩ := zg g3; clear g3
 obtain ⟨rfl, g5⟩ := zg g4; clear g4
 obtain ⟨rfl, g6⟩ := zg g5; clear g5
 clear h
 cases g6
 exact ⟨rfl, rfl⟩
def zwe (N : Nat) : Ent qP := zy (zL qP [36, 37]) (zi _) zl 35 Tryd.f35 Tryd.func35 rfl jC (lam N (JZ N)) (zm (l := [(5, zc 5 zaR), (16, zc 16 zaR)]) (al (zlr N) (al (zc7 N) an)) (by kernel_rfl)) (zap N) (fun _ => ⟨rfl, rfl⟩) (zo0 N) (ztV N) (znl N)
def ZI : Nat -> Keep × Keep := anF [(2, ⟨[1, 3, 5, 6], [], [3, 5, 6], [], [((6, 0), 1)], [], [], [], true, none, []⟩, ⟨[1, 3, 5, 6, 7], [], [3, 5, 6], [], [((6, 0), 1)], [], [], [], false, none, []⟩), (6, ⟨[1, 3, 5, 6], [], [3, 5, 6], [], [((6, 0), 1)], [], [], [], true, none, []⟩, ⟨[1, 3, 5, 6, 7], [], [3, 5, 6], [], [((6, 0), 1)], [], [], [], false, none, []⟩), (18, ⟨[1, 3, 5, 6, 9], [], [3, 5, 6, 9], [], [((6, 0), 1)], [], [], [], true, none, []⟩, ⟨[1, 3, 5, 6, 9, 63], [], [3, 5, 6, 9], [], [((6, 0), 1)], [], [], [], false, none, []⟩), (27, ⟨[1, 3, 5, 6, 9, 95], [], [3, 5, 6, 9], [], [((6, 0), 1)], [], [], [], true, none, []⟩, ⟨[1, 3, 5, 6], [], [3, 5, 6], [], [((6, 0), 1)], [], [], [], false, none, []⟩)] [(100019, ([], [((10, 0), 1)]))]
def zpe (N : Nat) : GamK := gam (P := qP) [zzm N, zAp N, zBg N, zEw N, zB7 N, zvo N, zAw N, zvl N, zwe N]
def Jo (N : Nat) : LSpec where
 X := Int × Bool × qL × RT7 × qL × RT7
 Y := (Int × qL × RT7 × qL)
 p := fun s => rdS 120 0 [(1, .int .i64), (3, .ptr 3 0), (5, .ptr 5 0), (6, .ptr 6 0), (9, .ptr 9 0), (95, .bool)] [(3, .cells [.lst 1]), (5, .row RK7), (6, .cells [.tok 1 6401572864]), (9, .row RK7)] s fun ⟨a0, _, _, _, _, a1, _⟩ ⟨⟨a2, _⟩, a3, ⟨a4, _⟩, a5, _⟩ => (a0, a1, a2, a3, a4, a5)
 st := fun u27 => mkS 120 [(1, (qI u27.1)), (3, (AV.ptr 3 0)), (5, (AV.ptr 5 0)), (6, (AV.ptr 6 0)), (9, (AV.ptr 9 0)), (95, (AV.v (.bool u27.2.1)))] [(3, [(AV.list 1 u27.2.2.1 none)]), (5, (zN u27.2.2.2.1)), (6, [(AV.list 1 u27.2.2.2.2.1 (some 6401572864))]), (9, (zN u27.2.2.2.2.2))] (ZI 27).1.toks 0
 out := fun y => (.normal, mkS 120 [(1, (qI y.1)), (3, (AV.ptr 3 0)), (5, (AV.ptr 5 0)), (6, (AV.ptr 6 0))] [(3, [(AV.list 1 y.2.1 none)]), (5, (zN y.2.2.1)), (6, [(AV.list 1 y.2.2.2 (some 6401572864))])] (ZI 27).2.toks 0)
 b := fun u27 α kn ke => (match u27.2.1 with | true => (ke (u27.1, u27.2.2.1, (u27.2.2.2.1.1, u27.2.2.2.1.2.1, u27.2.2.2.1.2.2.1, u27.2.2.2.1.2.2.2.1, u27.2.2.2.2.2.2.2.2.2), u27.2.2.2.2.1)) | false => (ke (u27.1, u27.2.2.1, u27.2.2.2.1, u27.2.2.2.2.1)))
abbrev zor (N : Nat) (x : Int × Bool × qL × RT7 × qL × RT7) : Option ((Int × qL × RT7 × qL)) := (Jo N).L N x
def jz (N : Nat) : LSpec where
 X := Int × qL × RT7 × qL × RT7
 Y := (Int × Bool × qL × RT7 × qL × RT7)
 p := fun s => rdS 120 0 [(1, .int .i64), (3, .ptr 3 0), (5, .ptr 5 0), (6, .ptr 6 0), (9, .ptr 9 0)] [(3, .cells [.lst 1]), (5, .row RK7), (6, .cells [.tok 1 6401572864]), (9, .row RK7)] s fun ⟨a0, _, _, _, _, _⟩ ⟨⟨a1, _⟩, a2, ⟨a3, _⟩, a4, _⟩ => (a0, a1, a2, a3, a4)
 st := fun u18 => mkS 120 [(1, (qI u18.1)), (3, (AV.ptr 3 0)), (5, (AV.ptr 5 0)), (6, (AV.ptr 6 0)), (9, (AV.ptr 9 0))] [(3, [(AV.list 1 u18.2.1 none)]), (5, (zN u18.2.2.1)), (6, [(AV.list 1 u18.2.2.2.1 (some 6401572864))]), (9, (zN u18.2.2.2.2))] (ZI 18).1.toks 0
 out := fun y => (.normal, mkS 120 [(1, (qI y.1)), (3, (AV.ptr 3 0)), (5, (AV.ptr 5 0)), (6, (AV.ptr 6 0)), (9, (AV.ptr 9 0)), (63, (AV.v (.bool y.2.1)))] [(3, [(AV.list 1 y.2.2.1 none)]), (5, (zN y.2.2.2.1)), (6, [(AV.list 1 y.2.2.2.2.1 (some 6401572864))]), (9, (zN y.2.2.2.2.2))] (ZI 18).2.toks 0)
 b := fun u18 α kn ke => (match (u18.2.2.1.1 == 5) with | true => (match (u18.2.2.1.2.2.2.1 == u18.1) with | true => (ke (u18.1, true, u18.2)) | false => (match (u18.2.2.1.1 == 6) with | true => (match zuN N u18.2.2.2.2.1 with | some y30 => (ke (u18.1, y30, u18.2)) | none => none) | false => (ke (u18.1, false, u18.2)))) | false => (match (u18.2.2.1.1 == 6) with | true => (match zuN N u18.2.2.2.2.1 with | some y31 => (ke (u18.1, y31, u18.2)) | none => none) | false => (ke (u18.1, false, u18.2))))
abbrev zhz (N : Nat) (x : Int × qL × RT7 × qL × RT7) : Option ((Int × Bool × qL × RT7 × qL × RT7)) := (jz N).L N x
def JA (N : Nat) : LSpec where
 X := Int × qL × RT7 × qL
 Y := (Int × Int × qL × RT7 × qL) ⊕ (Int × qL × RT7 × qL)
 p := fun s => rdS 120 0 [(1, .int .i64), (3, .ptr 3 0), (5, .ptr 5 0), (6, .ptr 6 0)] [(3, .cells [.lst 1]), (5, .row RK7), (6, .cells [.tok 1 6401572864])] s fun ⟨a0, _, _, _, _⟩ ⟨⟨a1, _⟩, a2, ⟨a3, _⟩, _⟩ => (a0, a1, a2, a3)
 st := fun u6 => mkS 120 [(1, (qI u6.1)), (3, (AV.ptr 3 0)), (5, (AV.ptr 5 0)), (6, (AV.ptr 6 0))] [(3, [(AV.list 1 u6.2.1 none)]), (5, (zN u6.2.2.1)), (6, [(AV.list 1 u6.2.2.2 (some 6401572864))])] (ZI 6).1.toks 0
 out := fun y => match y with
  | .inl y => (.ret, mkS 120 [(1, (qI y.1)), (3, (AV.ptr 3 0)), (5, (AV.ptr 5 0)), (6, (AV.ptr 6 0)), (7, (qI y.2.1))] [(3, [(AV.list 1 y.2.2.1 none)]), (5, (zN y.2.2.2.1)), (6, [(AV.list 1 y.2.2.2.2 (some 6401572864))])] (ZI 6).2.toks 0)
  | .inr y => (.normal, mkS 120 [(1, (qI y.1)), (3, (AV.ptr 3 0)), (5, (AV.ptr 5 0)), (6, (AV.ptr 6 0))] [(3, [(AV.list 1 y.2.1 none)]), (5, (zN y.2.2.1)), (6, [(AV.list 1 y.2.2.2 (some 6401572864))])] (ZI 6).2.toks 0)
 b := fun u6 α kn ke => (match zpp N (u6.2.1, u6.1) with | some y17 => (match (!y17) with | true => (ke (.inl (u6.1, 6, u6.2.1, u6.2.2.1, ([] : qL)))) | false => (match (u6.2.2.1.1 == 5) with | true => (match zpp N (u6.2.1, u6.2.2.1.2.2.2.1) with | some y18 => (match (!y18) with | true => (ke (.inl (u6.1, 6, u6.2.1, u6.2.2.1, ([] : qL)))) | false => (ke (.inr u6))) | none => none) | false => (ke (.inr u6)))) | none => none)
abbrev zjd (N : Nat) (x : Int × qL × RT7 × qL) : Option ((Int × Int × qL × RT7 × qL) ⊕ (Int × qL × RT7 × qL)) := (JA N).L N x
def zav (N : Nat) : LSpec where
 X := Int × qL × RT7 × qL
 Y := (Int × Int × qL × RT7 × qL) ⊕ (Int × qL × RT7 × qL)
 p := fun s => rdS 120 0 [(1, .int .i64), (3, .ptr 3 0), (5, .ptr 5 0), (6, .ptr 6 0)] [(3, .cells [.lst 1]), (5, .row RK7), (6, .cells [.tok 1 6401572864])] s fun ⟨a0, _, _, _, _⟩ ⟨⟨a1, _⟩, a2, ⟨a3, _⟩, _⟩ => (a0, a1, a2, a3)
 st := fun u2 => mkS 120 [(1, (qI u2.1)), (3, (AV.ptr 3 0)), (5, (AV.ptr 5 0)), (6, (AV.ptr 6 0))] [(3, [(AV.list 1 u2.2.1 none)]), (5, (zN u2.2.2.1)), (6, [(AV.list 1 u2.2.2.2 (some 6401572864))])] (ZI 2).1.toks 0
 out := fun y => match y with
  | .inl y => (.ret, mkS 120 [(1, (qI y.1)), (3, (AV.ptr 3 0)), (5, (AV.ptr 5 0)), (6, (AV.ptr 6 0)), (7, (qI y.2.1))] [(3, [(AV.list 1 y.2.2.1 none)]), (5, (zN y.2.2.2.1)), (6, [(AV.list 1 y.2.2.2.2 (some 6401572864))])] (ZI 2).2.toks 0)
  | .inr y => (.normal, mkS 120 [(1, (qI y.1)), (3, (AV.ptr 3 0)), (5, (AV.ptr 5 0)), (6, (AV.ptr 6 0))] [(3, [(AV.list 1 y.2.1 none)]), (5, (zN y.2.2.1)), (6, [(AV.list 1 y.2.2.2 (some 6401572864))])] (ZI 2).2.toks 0)
 b := fun u2 α kn ke => (match zno N u2.2.1 with | some y7 => (match (!y7) with | true => (ke (.inl (u2.1, 1, u2.2.1, u2.2.2.1, ([] : qL)))) | false => (match zqB N u2.2.2.1.2.2.1 with | some y8 => (match (!y8) with | true => (ke (.inl (u2.1, 1, u2.2.1, u2.2.2.1, ([] : qL)))) | false => (match (u2.2.2.1.1 == 3) with | true => (match zlv N (zx u2.2.2.1) with | some y9 => (match (!y9) with | true => (ke (.inl (u2.1, 1, u2.2.1, u2.2.2.1, ([] : qL)))) | false => (ke (.inr u2))) | none => none) | false => (ke (.inr u2)))) | none => none)) | none => none)
abbrev zxk (N : Nat) (x : Int × qL × RT7 × qL) : Option ((Int × Int × qL × RT7 × qL) ⊕ (Int × qL × RT7 × qL)) := (zav N).L N x
def zd2 (N : Nat) : FSpec where
 X := qL × Int × RT7
 Y := qL × Int
 ash := [[some 1], [none], [none, none, none, none, none, none, none, none, none, none, none, none, none, some 9, none, none, none, none, none, none, none, none, none, none, none, none, none, none, none]]
 S := ⟨[[some 1], [none]], [], [], [], []⟩
 pat := fun a b => zk a fun v1 c2 => jg v1 fun c3 => zk c3 fun c4 c5 => Z3 1 c4 fun a0 => zQ c5 <| zk c2 fun v6 c7 => jQ .i64 v6 fun a1 => zk c7 fun v8 c9 => zwv RK7 v8 fun a2 => zQ c9 <| zQ b <| some (a0, a1, a2)
 args := fun x => [(AV.agg [(AV.list 1 x.1 none)]), (AV.v (.int .i64 x.2.1)), (AV.agg (zN x.2.2))]
 ret := fun y => ⟨(AV.tup [(AV.agg [(AV.list 1 y.1 none)]), (AV.v (.int .i64 y.2))]), [], none, [], [], [], none⟩
 t := fun x α k => (match zxk N (x.2.1, x.1, x.2.2, ([] : qL)) with | some y10 => (match y10 with | .inl z11 => (k (z11.2.2.2.2, z11.2.1)) | .inr z12 => (match zjd N z12 with | some y19 => (match y19 with | .inl z20 => (k (z20.2.2.2.2, z20.2.1)) | .inr z21 => (match ztU N (z21.2.1, z21.2.2.1.2.1) with | some y22 => (match (y22 != 0) with | true => (k (([] : qL), y22)) | false => (if 0 <= z21.1 then (match z21.2.1[z21.1.toNat]? with | some c23 => (match zfU c23 with | some e24 => (match zoc N e24.1 with | some y25 => (match zhz N (z21.1, z21.2.1, z21.2.2.1, z21.2.2.2, y25) with | some y32 => (match y32.2.1 with | true => (k (([] : qL), 10)) | false => (if 0 <= y32.1 then (match y32.2.2.1[y32.1.toNat]? with | some c33 => (match (c33.drop 0)[0]? with | some x34 => (match Z1 29 x34 with | some l35 => (match ((l35.length : Int) == 100) with | true => (k (([] : qL), 8)) | false => (if 0 <= y32.2.2.2.1.1 /\ y32.2.2.2.1.1 < 7 then (match ((gtab2.map AV.v).drop (y32.2.2.2.1.1.toNat * 1))[0]? with | some x36 => (match x36 with | .v (.bool b37) => (match zor N (y32.1, b37, y32.2.2) with | some y38 => (match zdq N (zx y38.2.2.1) with | some y39 => (match zjh N y38.2.1 with | some y40 => (if 0 <= y38.1 /\ y38.1 < (y40.1 : Int) then (match (y40.2.1.map (datJ y40.2.2.1 y40.2.2.2))[(((0 + y38.1.toNat) * 1) + 0)]? with | some c41 => (match c41 with | .list n42 l43 (some q44) => (if n42 = 29 /\ q44 = TOB + (((0 + y38.1.toNat) * 1) + 0) /\ y40.2.2.1 <= (((0 + y38.1.toNat) * 1) + 0) /\ (((0 + y38.1.toNat) * 1) + 0) < y40.2.2.2 then (if (l43.length + [(zN (y38.2.2.1.1, y38.2.2.1.2.1, y38.2.2.1.2.2.1, y38.2.2.1.2.2.2.1, y39))].length) * 288 <= zh then (if 0 <= y38.1 /\ y38.1 < (y40.1 : Int) then (if (((0 + y38.1.toNat) * 1) + 0) + 1 <= (y40.2.1.map (datJ y40.2.2.1 y40.2.2.2)).length then (if y40.1 * 1 <= (splice (y40.2.1.map (datJ y40.2.2.1 y40.2.2.2)) (((0 + y38.1.toNat) * 1) + 0) [(AV.list 29 (l43 ++ [(zN (y38.2.2.1.1, y38.2.2.1.2.1, y38.2.2.1.2.2.1, y38.2.2.1.2.2.2.1, y39))]) (some 7424))]).length then (k ((zK ((splice (y40.2.1.map (datJ y40.2.2.1 y40.2.2.2)) (((0 + y38.1.toNat) * 1) + 0) [(AV.list 29 (l43 ++ [(zN (y38.2.2.1.1, y38.2.2.1.2.1, y38.2.2.1.2.2.1, y38.2.2.1.2.2.2.1, y39))]) (some 7424))]).take (y40.1 * 1)) 1 y40.1), 0)) else none) else none) else none) else none) else none) | _ => none) | none => none) else none) | none => none) | none => none) | none => none) | _ => none) | none => none) else none)) | none => none) | none => none) | none => none) else none)) | none => none) | none => none) | none => none) | none => none) else none)) | none => none)) | none => none)) | none => none)
abbrev Jy (N : Nat) (x : qL × Int × RT7) : Option (qL × Int) := (zd2 N).d x
def Ja (N : Nat) : List (Nat × LSpec) := [(2, zav N), (6, JA N), (18, jz N), (27, Jo N)]
def zak : Code := Tryd.f53.body.getD .skip
theorem zm0 (N : Nat) : Par (Jo N).b := by
 intro x α β kn ke kn' ke' r r' h h1 h2
 revert h
 dsimp only [Jo]
 (repeat' (first | (with_reducible refine ze ?_ ?_) | split)) <;> intro h <;> first | exact h1 _ h | exact h2 _ h | cases h
theorem zj7 (N : Nat) : zlY (JT qP [104, 113]) (zpe N) ZI N (Ja N) 27 zak (Jo N) := fun x α kn ke => by kernel_rfl
theorem zk2 (N : Nat) : ZK qP ZI N (Ja N) 27 (zc 27 zak) :=
 jW (zL qP [104, 113]) (zi _) zl ZI N (Ja N) 27 zak (l := []) (by kernel_rfl) an (Jo N) rfl (fun s x hc h => by dsimp only [Jo] at h; exact zJ hc h (fun _ _ => rfl) rfl rfl rfl) (zj7 N) (zm0 N)
theorem zox (N : Nat) : Par (jz N).b := by
 intro x α β kn ke kn' ke' r r' h h1 h2
 revert h
 dsimp only [jz]
 (repeat' (first | (with_reducible refine ze ?_ ?_) | split)) <;> intro h <;> first | exact h1 _ h | exact h2 _ h | cases h
theorem zlb (N : Nat) : zlY (JT qP [104, 113]) (zpe N) ZI N (Ja N) 18 zak (jz N) := fun x α kn ke => by kernel_rfl
theorem zk9 (N : Nat) : ZK qP ZI N (Ja N) 18 (zc 18 zak) :=
 jW (zL qP [104, 113]) (zi _) zl ZI N (Ja N) 18 zak (l := []) (by kernel_rfl) an (jz N) rfl (fun s x hc h => by dsimp only [jz] at h; exact zJ hc h (fun _ _ => rfl) rfl rfl rfl) (zlb N) (zox N)
theorem ztS (N : Nat) : Par (JA N).b := by
 intro x α β kn ke kn' ke' r r' h h1 h2
 revert h
 dsimp only [JA]
 (repeat' (first | (with_reducible refine ze ?_ ?_) | split)) <;> intro h <;> first | exact h1 _ h | exact h2 _ h | cases h
theorem zmY (N : Nat) : zlY (JT qP [104, 113]) (zpe N) ZI N (Ja N) 6 zak (JA N) := fun x α kn ke => by kernel_rfl
theorem zms (N : Nat) : ZK qP ZI N (Ja N) 6 (zc 6 zak) :=
 jW (zL qP [104, 113]) (zi _) zl ZI N (Ja N) 6 zak (l := []) (by kernel_rfl) an (JA N) rfl (fun s x hc h => by dsimp only [JA] at h; exact zJ hc h (fun _ _ => rfl) rfl rfl rfl) (zmY N) (ztS N)
theorem zuE (N : Nat) : Par (zav N).b := by
 intro x α β kn ke kn' ke' r r' h h1 h2
 revert h
 dsimp only [zav]
 (repeat' (first | (with_reducible refine ze ?_ ?_) | split)) <;> intro h <;> first | exact h1 _ h | exact h2 _ h | cases h
theorem zoY (N : Nat) : zlY (JT qP [104, 113]) (zpe N) ZI N (Ja N) 2 zak (zav N) := fun x α kn ke => by kernel_rfl
theorem zpF (N : Nat) : ZK qP ZI N (Ja N) 2 (zc 2 zak) :=
 jW (zL qP [104, 113]) (zi _) zl ZI N (Ja N) 2 zak (l := []) (by kernel_rfl) an (zav N) rfl (fun s x hc h => by dsimp only [zav] at h; exact zJ hc h (fun _ _ => rfl) rfl rfl rfl) (zoY N) (zuE N)
theorem zsa (N : Nat) : Zd (zd2 N).t := by
 intro x α β k k' r r' h h1
 revert h
 dsimp only [zd2]
 (repeat' (first | (with_reducible refine ze ?_ ?_) | split)) <;> intro h <;> first | exact h1 _ h | cases h
theorem zsd (N : Nat) : Zh (JT qP [104, 113]) (zpe N) ZI (lam N (Ja N)) Tryd.f53 (zd2 N) := fun x => by kernel_rfl
theorem zxN (N : Nat) (a : List AV) (b : qL) (x : (zd2 N).X) (h : (zd2 N).pat a b = some x) : a = (zd2 N).args x /\ b = (zd2 N).bs x := by
 obtain ⟨v1, c2, rfl, g0⟩ := zb (show zk _ _ = some x from h)
 obtain ⟨c3, rfl, g1⟩ := zR g0; clear g0
 obtain ⟨c4, c5, rfl, g2⟩ := zb g1; clear g1
 obtain ⟨a0, rfl, g3⟩ := zr g2; clear g2
 obtain ⟨rfl, g4⟩ := zg g3; clear g3
 obtain ⟨v6, c7, rfl, g5⟩ := zb g4; clear g4
 obtain ⟨a1, rfl, g6⟩ := zC g5; clear g5
 obtain ⟨v8, c9, rfl, g7⟩ := zb g6; clear g6
 obtain ⟨a2, rfl, g8⟩ := zcM g7; clear g7
 obtain ⟨rfl, g9⟩ := zg g8; clear g8
 obtain ⟨rfl, g10⟩ := zg g9; clear g9
 clear h
 cases g10
 exact ⟨rfl, rfl⟩
def zrt (N : Nat) : Ent qP := zy (zL qP [104, 113]) (zi _) zl 53 Tryd.f53 Tryd.func53 rfl ZI (lam N (Ja N)) (zm (l := [(2, zc 2 zak), (6, zc 6 zak), (18, zc 18 zak), (27, zc 27 zak)]) (al (zpF N) (al (zms N) (al (zk9 N) (al (zk2 N) an)))) (by kernel_rfl)) (zd2 N) (fun _ => ⟨rfl, rfl⟩) (zsd N) (zxN N) (zsa N)
def Zk : Nat -> Keep × Keep := anF [(16, ⟨[2, 6, 10, 12, 43, 44], [(11, 1)], [6, 10, 36, 39], [(1, 25), (42, 1)], [((6, 0), 1)], [], [], [36, 39], false, some 36, []⟩, ⟨[2, 6, 8, 10, 12], [(11, 1)], [6, 10, 36, 39], [(1, 25), (7, 1)], [((6, 0), 1)], [], [], [36, 39], false, some 36, []⟩), (27, ⟨[2, 6, 10, 12, 13, 14, 15, 16, 43, 44, 58], [(11, 1)], [6, 10, 16, 36, 39], [(1, 25), (42, 1)], [((6, 0), 1)], [], [], [36, 39], true, some 36, []⟩, ⟨[2, 6, 10, 12, 13, 14, 15, 16, 43, 44], [(11, 1)], [6, 10, 16, 36, 39], [(1, 25), (42, 1)], [((6, 0), 1)], [], [], [36, 39], false, some 36, []⟩), (33, ⟨[2, 6, 10, 12, 13, 14, 15, 16, 43, 44, 81], [(11, 1)], [6, 10, 16, 36, 39], [(1, 25), (42, 1)], [((6, 0), 1)], [], [], [36, 39], true, some 36, []⟩, ⟨[2, 6, 10, 12, 13, 15, 43, 44], [(11, 1)], [6, 10, 36, 39], [(1, 25), (42, 1)], [((6, 0), 1)], [], [], [36, 39], false, some 36, []⟩), (35, ⟨[2, 6, 10, 12, 13, 14, 15, 16, 43, 44], [(11, 1)], [6, 10, 16, 36, 39], [(1, 25), (42, 1)], [((6, 0), 1)], [], [], [36, 39], true, some 36, []⟩, ⟨[2, 6, 10, 12, 13, 14, 15, 43, 44], [(11, 1)], [6, 10, 36, 39], [(1, 25), (42, 1)], [((6, 0), 1)], [], [], [36, 39], false, some 36, []⟩), (46, ⟨[2, 6, 10, 12, 130, 131], [(11, 1)], [6, 10, 39], [(129, 25)], [((6, 0), 1)], [], [((10, 0), 1)], [39], false, none, []⟩, ⟨[6, 10], [(11, 1)], [6, 10], [], [((6, 0), 1)], [], [((10, 0), 1)], [], false, none, []⟩)] [(100035, ([], [((10, 0), 1)]))]
def zln (N : Nat) : GamK := gam (P := qP) [zzm N, zB2 N, zB7 N, zwe N, zDq N, zvo N, zAw N, zBO N, zvl N]
def ZG (N : Nat) : LSpec where
 X := qL × qL × Int × Nat × Int × Int × qL × Nat × qA × qA
 Y := (qL × qL × Nat × qA)
 p := fun s => rdS 166 0 [(11, .tok 1 1280000704), (129, .lst 25), (2, .int .i64), (6, .ptr 6 0), (10, .ptr 10 0), (12, .vs0 39 1), (130, .int .i64), (131, .int .i64)] [(6, .cells [.tok 1 6401572864]), (10, .cells [.vs0 2040960 1]), (39, .tt), (2040960, .tt)] s fun ⟨a0, a1, a2, _, _, a3, a4, a5, _⟩ ⟨⟨a6, _⟩, ⟨a7, _⟩, a8, a9, _⟩ => (a0, a1, a2, a3, a4, a5, a6, a7, a8, a9)
 st := fun u46 => mkS 166 [(11, (AV.list 1 u46.1 (some 1280000704))), (129, (AV.list 25 u46.2.1 none)), (2, (qI u46.2.2.1)), (6, (AV.ptr 6 0)), (10, (AV.ptr 10 0)), (12, (AV.vs 39 0 u46.2.2.2.1 1)), (130, (qI u46.2.2.2.2.1)), (131, (qI u46.2.2.2.2.2.1))] [(6, [(AV.list 1 u46.2.2.2.2.2.2.1 (some 6401572864))]), (10, [(AV.vs 2040960 0 u46.2.2.2.2.2.2.2.1 1)]), (39, u46.2.2.2.2.2.2.2.2.1), (2040960, u46.2.2.2.2.2.2.2.2.2)] (Zk 46).1.toks 0
 out := fun y => (.exit 3, mkS 166 [(11, (AV.list 1 y.1 (some 1280000704))), (6, (AV.ptr 6 0)), (10, (AV.ptr 10 0))] [(6, [(AV.list 1 y.2.1 (some 6401572864))]), (10, [(AV.vs 2040960 0 y.2.2.1 1)]), (2040960, y.2.2.2)] (Zk 46).2.toks 0)
 b := fun u46 α kn ke => (match (decide (u46.2.2.2.2.2.1 < u46.2.2.2.2.1)) with | true => (if 0 <= u46.2.2.2.2.2.1 then (match u46.2.1[u46.2.2.2.2.2.1.toNat]? with | some c100 => (match zju c100 with | some e101 => (if 0 <= u46.2.2.2.2.2.1 /\ u46.2.2.2.2.2.1 < (u46.2.2.2.1 : Int) then (match u46.2.2.2.2.2.2.2.2.1[((0 + u46.2.2.2.2.2.1.toNat) * 1)]? with | some x102 => (match x102 with | .v (.bool b103) => (match (!b103) with | true => (if (u46.1.length + [[(AV.v (.int .i64 ((u46.2.2.2.2.2.2.2.1 : Nat) : Int)))]].length) * 8 <= zh then (match zdq N e101 with | some y104 => (if u46.2.2.2.2.2.2.2.1 * 1 <= u46.2.2.2.2.2.2.2.2.2.length /\ (u46.2.2.2.2.2.2.2.1 + [[(AV.list 29 [(zN (1, u46.2.2.1, (⟨#[]⟩ : ByteArray), 0, y104))] none)]].length) * 24 <= zh then (kn ((u46.1 ++ [[(AV.v (.int .i64 ((u46.2.2.2.2.2.2.2.1 : Nat) : Int)))]]), u46.2.1, u46.2.2.1, u46.2.2.2.1, u46.2.2.2.2.1, (i64 (u46.2.2.2.2.2.1 + 1)), u46.2.2.2.2.2.2.1, (u46.2.2.2.2.2.2.2.1 + [[(AV.list 29 [(zN (1, u46.2.2.1, (⟨#[]⟩ : ByteArray), 0, y104))] none)]].length), (u46.2.2.2.2.2.2.2.2.1.map dat0), ((u46.2.2.2.2.2.2.2.2.2.take (u46.2.2.2.2.2.2.2.1 * 1) ++ [[(AV.list 29 [(zN (1, u46.2.2.1, (⟨#[]⟩ : ByteArray), 0, y104))] none)]].flatten).map dat0))) else none) | none => none) else none) | false => (kn (u46.1, u46.2.1, u46.2.2.1, u46.2.2.2.1, u46.2.2.2.2.1, (i64 (u46.2.2.2.2.2.1 + 1)), u46.2.2.2.2.2.2.1, u46.2.2.2.2.2.2.2.1, (u46.2.2.2.2.2.2.2.2.1.map dat0), (u46.2.2.2.2.2.2.2.2.2.map dat0)))) | _ => none) | none => none) else none) | none => none) | none => none) else none) | false => (ke (u46.1, u46.2.2.2.2.2.2.1, u46.2.2.2.2.2.2.2.1, (u46.2.2.2.2.2.2.2.2.2.map dat0))))
abbrev zog (N : Nat) (x : qL × qL × Int × Nat × Int × Int × qL × Nat × qA × qA) : Option ((qL × qL × Nat × qA)) := (ZG N).L N x
def jx (N : Nat) : LSpec where
 X := qL × qL × qL × Int × Nat × Int × Int × Nat × Int × Int × qL × Nat × RT7 × qA × qA × Nat × Nat
 Y := (qL × qL × qL × Int × Nat × Int × Int × Nat × Int × Int × qL × Nat × qA × qA × Nat × Nat) ⊕ (qL × qL × qL × Int × Nat × Int × Int × Nat × Int × Int × qL × Nat × qA × qA × Nat × Nat)
 p := fun s => rdF 166 0 36 [(11, .tok 1 1280000704), (1, .lst 25), (42, .lst 1), (2, .int .i64), (6, .ptr 6 0), (10, .ptr 10 0), (12, .vs0 39 1), (13, .int .i64), (14, .int .i64), (15, .ptrV 36), (16, .ptr 16 0), (43, .int .i64), (44, .int .i64)] [(6, .cells [.tok 1 6401572864]), (10, .cells [.vs0 36 1]), (16, .row RK7), (36, .tt), (39, .tt)] s fun ⟨a0, a1, a2, a3, _, _, a4, a5, a6, a7, _, a8, a9, _⟩ ⟨⟨a10, _⟩, ⟨a11, _⟩, a12, a13, a14, _⟩ a15 a16 => (a0, a1, a2, a3, a4, a5, a6, a7, a8, a9, a10, a11, a12, a13, a14, a15, a16)
 st := fun u35 => mkF 166 [(11, (AV.list 1 u35.1 (some 1280000704))), (1, (AV.list 25 u35.2.1 none)), (42, (AV.list 1 u35.2.2.1 none)), (2, (qI u35.2.2.2.1)), (6, (AV.ptr 6 0)), (10, (AV.ptr 10 0)), (12, (AV.vs 39 0 u35.2.2.2.2.1 1)), (13, (qI u35.2.2.2.2.2.1)), (14, (qI u35.2.2.2.2.2.2.1)), (15, (AV.ptr 36 u35.2.2.2.2.2.2.2.1)), (16, (AV.ptr 16 0)), (43, (qI u35.2.2.2.2.2.2.2.2.1)), (44, (qI u35.2.2.2.2.2.2.2.2.2.1))] [(6, [(AV.list 1 u35.2.2.2.2.2.2.2.2.2.2.1 (some 6401572864))]), (10, [(AV.vs 36 0 u35.2.2.2.2.2.2.2.2.2.2.2.1 1)]), (16, (zN u35.2.2.2.2.2.2.2.2.2.2.2.2.1)), (36, u35.2.2.2.2.2.2.2.2.2.2.2.2.2.1), (39, u35.2.2.2.2.2.2.2.2.2.2.2.2.2.2.1)] (Zk 35).1.toks 0 (some (36, u35.2.2.2.2.2.2.2.2.2.2.2.2.2.2.2.1, u35.2.2.2.2.2.2.2.2.2.2.2.2.2.2.2.2))
 out := fun y => match y with
  | .inl y => (.exit 1, mkF 166 [(11, (AV.list 1 y.1 (some 1280000704))), (1, (AV.list 25 y.2.1 none)), (42, (AV.list 1 y.2.2.1 none)), (2, (qI y.2.2.2.1)), (6, (AV.ptr 6 0)), (10, (AV.ptr 10 0)), (12, (AV.vs 39 0 y.2.2.2.2.1 1)), (13, (qI y.2.2.2.2.2.1)), (14, (qI y.2.2.2.2.2.2.1)), (15, (AV.ptr 36 y.2.2.2.2.2.2.2.1)), (43, (qI y.2.2.2.2.2.2.2.2.1)), (44, (qI y.2.2.2.2.2.2.2.2.2.1))] [(6, [(AV.list 1 y.2.2.2.2.2.2.2.2.2.2.1 (some 6401572864))]), (10, [(AV.vs 36 0 y.2.2.2.2.2.2.2.2.2.2.2.1 1)]), (36, y.2.2.2.2.2.2.2.2.2.2.2.2.1), (39, y.2.2.2.2.2.2.2.2.2.2.2.2.2.1)] (Zk 35).2.toks 0 (some (36, y.2.2.2.2.2.2.2.2.2.2.2.2.2.2.1, y.2.2.2.2.2.2.2.2.2.2.2.2.2.2.2)))
  | .inr y => (.normal, mkF 166 [(11, (AV.list 1 y.1 (some 1280000704))), (1, (AV.list 25 y.2.1 none)), (42, (AV.list 1 y.2.2.1 none)), (2, (qI y.2.2.2.1)), (6, (AV.ptr 6 0)), (10, (AV.ptr 10 0)), (12, (AV.vs 39 0 y.2.2.2.2.1 1)), (13, (qI y.2.2.2.2.2.1)), (14, (qI y.2.2.2.2.2.2.1)), (15, (AV.ptr 36 y.2.2.2.2.2.2.2.1)), (43, (qI y.2.2.2.2.2.2.2.2.1)), (44, (qI y.2.2.2.2.2.2.2.2.2.1))] [(6, [(AV.list 1 y.2.2.2.2.2.2.2.2.2.2.1 (some 6401572864))]), (10, [(AV.vs 36 0 y.2.2.2.2.2.2.2.2.2.2.2.1 1)]), (36, y.2.2.2.2.2.2.2.2.2.2.2.2.1), (39, y.2.2.2.2.2.2.2.2.2.2.2.2.2.1)] (Zk 35).2.toks 0 (some (36, y.2.2.2.2.2.2.2.2.2.2.2.2.2.2.1, y.2.2.2.2.2.2.2.2.2.2.2.2.2.2.2)))
 b := fun u35 α kn ke => (if 0 <= u35.2.2.2.2.2.2.2.2.2.2.2.2.1.1 /\ u35.2.2.2.2.2.2.2.2.2.2.2.2.1.1 < 7 then (match ((gtab0.map AV.v).drop (u35.2.2.2.2.2.2.2.2.2.2.2.2.1.1.toNat * 1))[0]? with | some x24 => (match x24 with | .v (.bool b25) => (match b25 with | true => (if 0 <= u35.2.2.2.2.2.2.1 then (match u35.2.1[u35.2.2.2.2.2.2.1.toNat]? with | some c26 => (match zju c26 with | some e27 => (match zlO N ((zx u35.2.2.2.2.2.2.2.2.2.2.2.2.1), e27) with | some y28 => (match y28 with | true => (ke (.inl (u35.1, u35.2.1, u35.2.2.1, u35.2.2.2.1, u35.2.2.2.2.1, u35.2.2.2.2.2.1, u35.2.2.2.2.2.2.1, u35.2.2.2.2.2.2.2.1, u35.2.2.2.2.2.2.2.2.1, u35.2.2.2.2.2.2.2.2.2.1, u35.2.2.2.2.2.2.2.2.2.2.1, u35.2.2.2.2.2.2.2.2.2.2.2.1, (u35.2.2.2.2.2.2.2.2.2.2.2.2.2.1.map datF), (u35.2.2.2.2.2.2.2.2.2.2.2.2.2.2.1.map dat0), u35.2.2.2.2.2.2.2.2.2.2.2.2.2.2.2))) | false => (ke (.inr (u35.1, u35.2.1, u35.2.2.1, u35.2.2.2.1, u35.2.2.2.2.1, u35.2.2.2.2.2.1, u35.2.2.2.2.2.2.1, u35.2.2.2.2.2.2.2.1, u35.2.2.2.2.2.2.2.2.1, u35.2.2.2.2.2.2.2.2.2.1, u35.2.2.2.2.2.2.2.2.2.2.1, u35.2.2.2.2.2.2.2.2.2.2.2.1, (u35.2.2.2.2.2.2.2.2.2.2.2.2.2.1.map datF), (u35.2.2.2.2.2.2.2.2.2.2.2.2.2.2.1.map dat0), u35.2.2.2.2.2.2.2.2.2.2.2.2.2.2.2)))) | none => none) | none => none) | none => none) else none) | false => (ke (.inr (u35.1, u35.2.1, u35.2.2.1, u35.2.2.2.1, u35.2.2.2.2.1, u35.2.2.2.2.2.1, u35.2.2.2.2.2.2.1, u35.2.2.2.2.2.2.2.1, u35.2.2.2.2.2.2.2.2.1, u35.2.2.2.2.2.2.2.2.2.1, u35.2.2.2.2.2.2.2.2.2.2.1, u35.2.2.2.2.2.2.2.2.2.2.2.1, (u35.2.2.2.2.2.2.2.2.2.2.2.2.2.1.map datF), (u35.2.2.2.2.2.2.2.2.2.2.2.2.2.2.1.map dat0), u35.2.2.2.2.2.2.2.2.2.2.2.2.2.2.2)))) | _ => none) | none => none) else none)
abbrev ze3 (N : Nat) (x : qL × qL × qL × Int × Nat × Int × Int × Nat × Int × Int × qL × Nat × RT7 × qA × qA × Nat × Nat) : Option ((qL × qL × qL × Int × Nat × Int × Int × Nat × Int × Int × qL × Nat × qA × qA × Nat × Nat) ⊕ (qL × qL × qL × Int × Nat × Int × Int × Nat × Int × Int × qL × Nat × qA × qA × Nat × Nat)) := (jx N).L N x
def jm (N : Nat) : LSpec where
 X := qL × qL × qL × Int × Nat × Int × Int × Nat × Int × Int × Bool × qL × Nat × RT7 × qA × qA × Nat × Nat
 Y := (qL × qL × qL × Int × Nat × Int × Nat × Int × Int × qL × Nat × qA × qA × Nat × Nat) ⊕ (qL × qL × qL × Int × Nat × Int × Nat × Int × Int × qL × Nat × qA × qA × Nat × Nat)
 p := fun s => rdF 166 0 36 [(11, .tok 1 1280000704), (1, .lst 25), (42, .lst 1), (2, .int .i64), (6, .ptr 6 0), (10, .ptr 10 0), (12, .vs0 39 1), (13, .int .i64), (14, .int .i64), (15, .ptrV 36), (16, .ptr 16 0), (43, .int .i64), (44, .int .i64), (81, .bool)] [(6, .cells [.tok 1 6401572864]), (10, .cells [.vs0 36 1]), (16, .row RK7), (36, .tt), (39, .tt)] s fun ⟨a0, a1, a2, a3, _, _, a4, a5, a6, a7, _, a8, a9, a10, _⟩ ⟨⟨a11, _⟩, ⟨a12, _⟩, a13, a14, a15, _⟩ a16 a17 => (a0, a1, a2, a3, a4, a5, a6, a7, a8, a9, a10, a11, a12, a13, a14, a15, a16, a17)
 st := fun u33 => mkF 166 [(11, (AV.list 1 u33.1 (some 1280000704))), (1, (AV.list 25 u33.2.1 none)), (42, (AV.list 1 u33.2.2.1 none)), (2, (qI u33.2.2.2.1)), (6, (AV.ptr 6 0)), (10, (AV.ptr 10 0)), (12, (AV.vs 39 0 u33.2.2.2.2.1 1)), (13, (qI u33.2.2.2.2.2.1)), (14, (qI u33.2.2.2.2.2.2.1)), (15, (AV.ptr 36 u33.2.2.2.2.2.2.2.1)), (16, (AV.ptr 16 0)), (43, (qI u33.2.2.2.2.2.2.2.2.1)), (44, (qI u33.2.2.2.2.2.2.2.2.2.1)), (81, (AV.v (.bool u33.2.2.2.2.2.2.2.2.2.2.1)))] [(6, [(AV.list 1 u33.2.2.2.2.2.2.2.2.2.2.2.1 (some 6401572864))]), (10, [(AV.vs 36 0 u33.2.2.2.2.2.2.2.2.2.2.2.2.1 1)]), (16, (zN u33.2.2.2.2.2.2.2.2.2.2.2.2.2.1)), (36, u33.2.2.2.2.2.2.2.2.2.2.2.2.2.2.1), (39, u33.2.2.2.2.2.2.2.2.2.2.2.2.2.2.2.1)] (Zk 33).1.toks 0 (some (36, u33.2.2.2.2.2.2.2.2.2.2.2.2.2.2.2.2.1, u33.2.2.2.2.2.2.2.2.2.2.2.2.2.2.2.2.2))
 out := fun y => match y with
  | .inl y => (.exit 1, mkF 166 [(11, (AV.list 1 y.1 (some 1280000704))), (1, (AV.list 25 y.2.1 none)), (42, (AV.list 1 y.2.2.1 none)), (2, (qI y.2.2.2.1)), (6, (AV.ptr 6 0)), (10, (AV.ptr 10 0)), (12, (AV.vs 39 0 y.2.2.2.2.1 1)), (13, (qI y.2.2.2.2.2.1)), (15, (AV.ptr 36 y.2.2.2.2.2.2.1)), (43, (qI y.2.2.2.2.2.2.2.1)), (44, (qI y.2.2.2.2.2.2.2.2.1))] [(6, [(AV.list 1 y.2.2.2.2.2.2.2.2.2.1 (some 6401572864))]), (10, [(AV.vs 36 0 y.2.2.2.2.2.2.2.2.2.2.1 1)]), (36, y.2.2.2.2.2.2.2.2.2.2.2.1), (39, y.2.2.2.2.2.2.2.2.2.2.2.2.1)] (Zk 33).2.toks 0 (some (36, y.2.2.2.2.2.2.2.2.2.2.2.2.2.1, y.2.2.2.2.2.2.2.2.2.2.2.2.2.2)))
  | .inr y => (.normal, mkF 166 [(11, (AV.list 1 y.1 (some 1280000704))), (1, (AV.list 25 y.2.1 none)), (42, (AV.list 1 y.2.2.1 none)), (2, (qI y.2.2.2.1)), (6, (AV.ptr 6 0)), (10, (AV.ptr 10 0)), (12, (AV.vs 39 0 y.2.2.2.2.1 1)), (13, (qI y.2.2.2.2.2.1)), (15, (AV.ptr 36 y.2.2.2.2.2.2.1)), (43, (qI y.2.2.2.2.2.2.2.1)), (44, (qI y.2.2.2.2.2.2.2.2.1))] [(6, [(AV.list 1 y.2.2.2.2.2.2.2.2.2.1 (some 6401572864))]), (10, [(AV.vs 36 0 y.2.2.2.2.2.2.2.2.2.2.1 1)]), (36, y.2.2.2.2.2.2.2.2.2.2.2.1), (39, y.2.2.2.2.2.2.2.2.2.2.2.2.1)] (Zk 33).2.toks 0 (some (36, y.2.2.2.2.2.2.2.2.2.2.2.2.2.1, y.2.2.2.2.2.2.2.2.2.2.2.2.2.2)))
 b := fun u33 α kn ke => (match u33.2.2.2.2.2.2.2.2.2.2.1 with | true => (match ze3 N (u33.1, u33.2.1, u33.2.2.1, u33.2.2.2.1, u33.2.2.2.2.1, u33.2.2.2.2.2.1, u33.2.2.2.2.2.2.1, u33.2.2.2.2.2.2.2.1, u33.2.2.2.2.2.2.2.2.1, u33.2.2.2.2.2.2.2.2.2.1, u33.2.2.2.2.2.2.2.2.2.2.2.1, u33.2.2.2.2.2.2.2.2.2.2.2.2.1, u33.2.2.2.2.2.2.2.2.2.2.2.2.2.1, (u33.2.2.2.2.2.2.2.2.2.2.2.2.2.2.1.map datF), (u33.2.2.2.2.2.2.2.2.2.2.2.2.2.2.2.1.map dat0), u33.2.2.2.2.2.2.2.2.2.2.2.2.2.2.2.2) with | some y59 => (match y59 with | .inl z60 => (ke (.inl (z60.1, z60.2.1, z60.2.2.1, z60.2.2.2.1, z60.2.2.2.2.1, z60.2.2.2.2.2.1, z60.2.2.2.2.2.2.2.1, z60.2.2.2.2.2.2.2.2.1, z60.2.2.2.2.2.2.2.2.2.1, z60.2.2.2.2.2.2.2.2.2.2.1, z60.2.2.2.2.2.2.2.2.2.2.2.1, (z60.2.2.2.2.2.2.2.2.2.2.2.2.1.map datF), (z60.2.2.2.2.2.2.2.2.2.2.2.2.2.1.map dat0), z60.2.2.2.2.2.2.2.2.2.2.2.2.2.2))) | .inr z61 => (match z61.2.2.2.2.2.2.2.2.2.2.2.2.1[(z61.2.2.2.2.2.2.2.1 + 0)]? with | some c62 => (match c62 with | .list n63 l64 (some q65) => (if n63 = 29 /\ q65 = TOB + (z61.2.2.2.2.2.2.2.1 + 0) /\ z61.2.2.2.2.2.2.2.2.2.2.2.2.2.2.1 <= (z61.2.2.2.2.2.2.2.1 + 0) /\ (z61.2.2.2.2.2.2.2.1 + 0) < z61.2.2.2.2.2.2.2.2.2.2.2.2.2.2.2 then (if 0 <= z61.2.2.2.2.2.2.1 then (match z61.2.1[z61.2.2.2.2.2.2.1.toNat]? with | some c66 => (match zju c66 with | some e67 => (match zdq N e67 with | some y68 => (if (l64.length + [(zN (1, z61.2.2.2.1, (⟨#[]⟩ : ByteArray), 0, y68))].length) * 288 <= zh then (if (z61.2.2.2.2.2.2.2.1 + 0) + 1 <= z61.2.2.2.2.2.2.2.2.2.2.2.2.1.length then (ke (.inr (z61.1, z61.2.1, z61.2.2.1, z61.2.2.2.1, z61.2.2.2.2.1, z61.2.2.2.2.2.1, z61.2.2.2.2.2.2.2.1, z61.2.2.2.2.2.2.2.2.1, z61.2.2.2.2.2.2.2.2.2.1, z61.2.2.2.2.2.2.2.2.2.2.1, z61.2.2.2.2.2.2.2.2.2.2.2.1, ((splice z61.2.2.2.2.2.2.2.2.2.2.2.2.1 (z61.2.2.2.2.2.2.2.1 + 0) [(AV.list 29 (l64 ++ [(zN (1, z61.2.2.2.1, (⟨#[]⟩ : ByteArray), 0, y68))]) (some 7040))]).map datF), (z61.2.2.2.2.2.2.2.2.2.2.2.2.2.1.map dat0), ((z61.2.2.2.2.2.2.2.1 + 0) + 1), z61.2.2.2.2.2.2.2.2.2.2.2.2.2.2.2))) else none) else none) | none => none) | none => none) | none => none) else none) else none) | _ => none) | none => none)) | none => none) | false => (match (u33.2.2.2.2.2.2.2.2.2.2.2.2.2.1.1 == 2) with | true => (ke (.inl (u33.1, u33.2.1, u33.2.2.1, u33.2.2.2.1, u33.2.2.2.2.1, u33.2.2.2.2.2.1, u33.2.2.2.2.2.2.2.1, u33.2.2.2.2.2.2.2.2.1, u33.2.2.2.2.2.2.2.2.2.1, u33.2.2.2.2.2.2.2.2.2.2.2.1, u33.2.2.2.2.2.2.2.2.2.2.2.2.1, (u33.2.2.2.2.2.2.2.2.2.2.2.2.2.2.1.map datF), (u33.2.2.2.2.2.2.2.2.2.2.2.2.2.2.2.1.map dat0), u33.2.2.2.2.2.2.2.2.2.2.2.2.2.2.2.2))) | false => (match u33.2.2.2.2.2.2.2.2.2.2.2.2.2.2.1[(u33.2.2.2.2.2.2.2.1 + 0)]? with | some c69 => (match c69 with | .list n70 l71 (some q72) => (if n70 = 29 /\ q72 = TOB + (u33.2.2.2.2.2.2.2.1 + 0) /\ u33.2.2.2.2.2.2.2.2.2.2.2.2.2.2.2.2.1 <= (u33.2.2.2.2.2.2.2.1 + 0) /\ (u33.2.2.2.2.2.2.2.1 + 0) < u33.2.2.2.2.2.2.2.2.2.2.2.2.2.2.2.2.2 then (match zdq N (zx u33.2.2.2.2.2.2.2.2.2.2.2.2.2.1) with | some y73 => (if (l71.length + [(zN (2, u33.2.2.2.1, (⟨#[]⟩ : ByteArray), 0, y73))].length) * 288 <= zh then (if (u33.2.2.2.2.2.2.2.1 + 0) + 1 <= u33.2.2.2.2.2.2.2.2.2.2.2.2.2.2.1.length then (ke (.inr (u33.1, u33.2.1, u33.2.2.1, u33.2.2.2.1, u33.2.2.2.2.1, u33.2.2.2.2.2.1, u33.2.2.2.2.2.2.2.1, u33.2.2.2.2.2.2.2.2.1, u33.2.2.2.2.2.2.2.2.2.1, u33.2.2.2.2.2.2.2.2.2.2.2.1, u33.2.2.2.2.2.2.2.2.2.2.2.2.1, ((splice u33.2.2.2.2.2.2.2.2.2.2.2.2.2.2.1 (u33.2.2.2.2.2.2.2.1 + 0) [(AV.list 29 (l71 ++ [(zN (2, u33.2.2.2.1, (⟨#[]⟩ : ByteArray), 0, y73))]) (some 4672))]).map datF), (u33.2.2.2.2.2.2.2.2.2.2.2.2.2.2.2.1.map dat0), ((u33.2.2.2.2.2.2.2.1 + 0) + 1), u33.2.2.2.2.2.2.2.2.2.2.2.2.2.2.2.2.2))) else none) else none) | none => none) else none) | _ => none) | none => none)))
abbrev zfd (N : Nat) (x : qL × qL × qL × Int × Nat × Int × Int × Nat × Int × Int × Bool × qL × Nat × RT7 × qA × qA × Nat × Nat) : Option ((qL × qL × qL × Int × Nat × Int × Nat × Int × Int × qL × Nat × qA × qA × Nat × Nat) ⊕ (qL × qL × qL × Int × Nat × Int × Nat × Int × Int × qL × Nat × qA × qA × Nat × Nat)) := (jm N).L N x
def Jk (N : Nat) : LSpec where
 X := qL × qL × qL × Int × Nat × Int × Int × Nat × Int × Int × Bool × qL × Nat × RT7 × qA × qA × Nat × Nat
 Y := (qL × qL × qL × Int × Nat × Int × Int × Nat × Int × Int × qL × Nat × RT7 × qA × qA × Nat × Nat)
 p := fun s => rdF 166 0 36 [(11, .tok 1 1280000704), (1, .lst 25), (42, .lst 1), (2, .int .i64), (6, .ptr 6 0), (10, .ptr 10 0), (12, .vs0 39 1), (13, .int .i64), (14, .int .i64), (15, .ptrV 36), (16, .ptr 16 0), (43, .int .i64), (44, .int .i64), (58, .bool)] [(6, .cells [.tok 1 6401572864]), (10, .cells [.vs0 36 1]), (16, .row RK7), (36, .tt), (39, .tt)] s fun ⟨a0, a1, a2, a3, _, _, a4, a5, a6, a7, _, a8, a9, a10, _⟩ ⟨⟨a11, _⟩, ⟨a12, _⟩, a13, a14, a15, _⟩ a16 a17 => (a0, a1, a2, a3, a4, a5, a6, a7, a8, a9, a10, a11, a12, a13, a14, a15, a16, a17)
 st := fun u27 => mkF 166 [(11, (AV.list 1 u27.1 (some 1280000704))), (1, (AV.list 25 u27.2.1 none)), (42, (AV.list 1 u27.2.2.1 none)), (2, (qI u27.2.2.2.1)), (6, (AV.ptr 6 0)), (10, (AV.ptr 10 0)), (12, (AV.vs 39 0 u27.2.2.2.2.1 1)), (13, (qI u27.2.2.2.2.2.1)), (14, (qI u27.2.2.2.2.2.2.1)), (15, (AV.ptr 36 u27.2.2.2.2.2.2.2.1)), (16, (AV.ptr 16 0)), (43, (qI u27.2.2.2.2.2.2.2.2.1)), (44, (qI u27.2.2.2.2.2.2.2.2.2.1)), (58, (AV.v (.bool u27.2.2.2.2.2.2.2.2.2.2.1)))] [(6, [(AV.list 1 u27.2.2.2.2.2.2.2.2.2.2.2.1 (some 6401572864))]), (10, [(AV.vs 36 0 u27.2.2.2.2.2.2.2.2.2.2.2.2.1 1)]), (16, (zN u27.2.2.2.2.2.2.2.2.2.2.2.2.2.1)), (36, u27.2.2.2.2.2.2.2.2.2.2.2.2.2.2.1), (39, u27.2.2.2.2.2.2.2.2.2.2.2.2.2.2.2.1)] (Zk 27).1.toks 0 (some (36, u27.2.2.2.2.2.2.2.2.2.2.2.2.2.2.2.2.1, u27.2.2.2.2.2.2.2.2.2.2.2.2.2.2.2.2.2))
 out := fun y => (.normal, mkF 166 [(11, (AV.list 1 y.1 (some 1280000704))), (1, (AV.list 25 y.2.1 none)), (42, (AV.list 1 y.2.2.1 none)), (2, (qI y.2.2.2.1)), (6, (AV.ptr 6 0)), (10, (AV.ptr 10 0)), (12, (AV.vs 39 0 y.2.2.2.2.1 1)), (13, (qI y.2.2.2.2.2.1)), (14, (qI y.2.2.2.2.2.2.1)), (15, (AV.ptr 36 y.2.2.2.2.2.2.2.1)), (16, (AV.ptr 16 0)), (43, (qI y.2.2.2.2.2.2.2.2.1)), (44, (qI y.2.2.2.2.2.2.2.2.2.1))] [(6, [(AV.list 1 y.2.2.2.2.2.2.2.2.2.2.1 (some 6401572864))]), (10, [(AV.vs 36 0 y.2.2.2.2.2.2.2.2.2.2.2.1 1)]), (16, (zN y.2.2.2.2.2.2.2.2.2.2.2.2.1)), (36, y.2.2.2.2.2.2.2.2.2.2.2.2.2.1), (39, y.2.2.2.2.2.2.2.2.2.2.2.2.2.2.1)] (Zk 27).2.toks 0 (some (36, y.2.2.2.2.2.2.2.2.2.2.2.2.2.2.2.1, y.2.2.2.2.2.2.2.2.2.2.2.2.2.2.2.2)))
 b := fun u27 α kn ke => (match u27.2.2.2.2.2.2.2.2.2.2.1 with | true => (if 0 <= u27.2.2.2.2.2.2.1 /\ u27.2.2.2.2.2.2.1 < (u27.2.2.2.2.1 : Int) then (if ((0 + u27.2.2.2.2.2.2.1.toNat) * 1) + 1 <= u27.2.2.2.2.2.2.2.2.2.2.2.2.2.2.2.1.length then (ke (u27.1, u27.2.1, u27.2.2.1, u27.2.2.2.1, u27.2.2.2.2.1, u27.2.2.2.2.2.1, u27.2.2.2.2.2.2.1, u27.2.2.2.2.2.2.2.1, u27.2.2.2.2.2.2.2.2.1, u27.2.2.2.2.2.2.2.2.2.1, u27.2.2.2.2.2.2.2.2.2.2.2.1, u27.2.2.2.2.2.2.2.2.2.2.2.2.1, u27.2.2.2.2.2.2.2.2.2.2.2.2.2.1, (u27.2.2.2.2.2.2.2.2.2.2.2.2.2.2.1.map datF), ((splice u27.2.2.2.2.2.2.2.2.2.2.2.2.2.2.2.1 ((0 + u27.2.2.2.2.2.2.1.toNat) * 1) [(AV.v (.bool true))]).map dat0), u27.2.2.2.2.2.2.2.2.2.2.2.2.2.2.2.2)) else none) else none) | false => (ke (u27.1, u27.2.1, u27.2.2.1, u27.2.2.2.1, u27.2.2.2.2.1, u27.2.2.2.2.2.1, u27.2.2.2.2.2.2.1, u27.2.2.2.2.2.2.2.1, u27.2.2.2.2.2.2.2.2.1, u27.2.2.2.2.2.2.2.2.2.1, u27.2.2.2.2.2.2.2.2.2.2.2.1, u27.2.2.2.2.2.2.2.2.2.2.2.2.1, u27.2.2.2.2.2.2.2.2.2.2.2.2.2.1, (u27.2.2.2.2.2.2.2.2.2.2.2.2.2.2.1.map datF), (u27.2.2.2.2.2.2.2.2.2.2.2.2.2.2.2.1.map dat0), u27.2.2.2.2.2.2.2.2.2.2.2.2.2.2.2.2)))
abbrev zma (N : Nat) (x : qL × qL × qL × Int × Nat × Int × Int × Nat × Int × Int × Bool × qL × Nat × RT7 × qA × qA × Nat × Nat) : Option ((qL × qL × qL × Int × Nat × Int × Int × Nat × Int × Int × qL × Nat × RT7 × qA × qA × Nat × Nat)) := (Jk N).L N x
def Zc (N : Nat) : LSpec where
 X := qL × qL × qL × Int × Nat × Int × Int × qL × Nat × qA × qA × Nat × Nat
 Y := (qL × qL × qL × Int × Int × Nat × qL × Nat × qA × qA × Nat × Nat) ⊕ (qL × qL × Int × Nat × qL × Nat × qA × qA × Nat × Nat)
 p := fun s => rdF 166 0 36 [(11, .tok 1 1280000704), (1, .lst 25), (42, .lst 1), (2, .int .i64), (6, .ptr 6 0), (10, .ptr 10 0), (12, .vs0 39 1), (43, .int .i64), (44, .int .i64)] [(6, .cells [.tok 1 6401572864]), (10, .cells [.vs0 36 1]), (36, .tt), (39, .tt)] s fun ⟨a0, a1, a2, a3, _, _, a4, a5, a6, _⟩ ⟨⟨a7, _⟩, ⟨a8, _⟩, a9, a10, _⟩ a11 a12 => (a0, a1, a2, a3, a4, a5, a6, a7, a8, a9, a10, a11, a12)
 st := fun u16 => mkF 166 [(11, (AV.list 1 u16.1 (some 1280000704))), (1, (AV.list 25 u16.2.1 none)), (42, (AV.list 1 u16.2.2.1 none)), (2, (qI u16.2.2.2.1)), (6, (AV.ptr 6 0)), (10, (AV.ptr 10 0)), (12, (AV.vs 39 0 u16.2.2.2.2.1 1)), (43, (qI u16.2.2.2.2.2.1)), (44, (qI u16.2.2.2.2.2.2.1))] [(6, [(AV.list 1 u16.2.2.2.2.2.2.2.1 (some 6401572864))]), (10, [(AV.vs 36 0 u16.2.2.2.2.2.2.2.2.1 1)]), (36, u16.2.2.2.2.2.2.2.2.2.1), (39, u16.2.2.2.2.2.2.2.2.2.2.1)] (Zk 16).1.toks 0 (some (36, u16.2.2.2.2.2.2.2.2.2.2.2.1, u16.2.2.2.2.2.2.2.2.2.2.2.2))
 out := fun y => match y with
  | .inl y => (.ret, mkF 166 [(11, (AV.list 1 y.1 (some 1280000704))), (1, (AV.list 25 y.2.1 none)), (7, (AV.list 1 y.2.2.1 none)), (2, (qI y.2.2.2.1)), (6, (AV.ptr 6 0)), (8, (qI y.2.2.2.2.1)), (10, (AV.ptr 10 0)), (12, (AV.vs 39 0 y.2.2.2.2.2.1 1))] [(6, [(AV.list 1 y.2.2.2.2.2.2.1 (some 6401572864))]), (10, [(AV.vs 36 0 y.2.2.2.2.2.2.2.1 1)]), (36, y.2.2.2.2.2.2.2.2.1), (39, y.2.2.2.2.2.2.2.2.2.1)] (Zk 16).2.toks 0 (some (36, y.2.2.2.2.2.2.2.2.2.2.1, y.2.2.2.2.2.2.2.2.2.2.2)))
  | .inr y => (.exit 0, mkF 166 [(11, (AV.list 1 y.1 (some 1280000704))), (1, (AV.list 25 y.2.1 none)), (2, (qI y.2.2.1)), (6, (AV.ptr 6 0)), (10, (AV.ptr 10 0)), (12, (AV.vs 39 0 y.2.2.2.1 1))] [(6, [(AV.list 1 y.2.2.2.2.1 (some 6401572864))]), (10, [(AV.vs 36 0 y.2.2.2.2.2.1 1)]), (36, y.2.2.2.2.2.2.1), (39, y.2.2.2.2.2.2.2.1)] (Zk 16).2.toks 0 (some (36, y.2.2.2.2.2.2.2.2.1, y.2.2.2.2.2.2.2.2.2)))
 b := fun u16 α kn ke => (match (decide (u16.2.2.2.2.2.2.1 < u16.2.2.2.2.2.1)) with | true => (if 0 <= u16.2.2.2.2.2.2.1 then (match u16.2.2.1[u16.2.2.2.2.2.2.1.toNat]? with | some c79 => (match c79[0]? with | some x80 => (match x80 with | .v (.int q82 n81) => (if q82 = .i64 then (if 0 <= u16.2.2.2.2.2.2.1 /\ u16.2.2.2.2.2.2.1 < (u16.2.2.2.2.2.2.2.2.1 : Int) then (match zfU (u16.2.2.2.2.2.2.2.2.2.1.drop ((0 + u16.2.2.2.2.2.2.1.toNat) * 1)) with | some e83 => (match zoc N e83.1 with | some y84 => (match zma N (u16.1, u16.2.1, u16.2.2.1, u16.2.2.2.1, u16.2.2.2.2.1, u16.2.2.2.2.2.2.1, n81, ((0 + u16.2.2.2.2.2.2.1.toNat) * 1), u16.2.2.2.2.2.1, u16.2.2.2.2.2.2.1, (decide (n81 >= 0)), u16.2.2.2.2.2.2.2.1, u16.2.2.2.2.2.2.2.2.1, y84, (u16.2.2.2.2.2.2.2.2.2.1.map datF), (u16.2.2.2.2.2.2.2.2.2.2.1.map dat0), u16.2.2.2.2.2.2.2.2.2.2.2) with | some y85 => (match zuN N y85.2.2.2.2.2.2.2.2.2.2.2.2.1.1 with | some y86 => (match (!y86) with | true => (kn (y85.1, y85.2.1, y85.2.2.1, y85.2.2.2.1, y85.2.2.2.2.1, y85.2.2.2.2.2.2.2.2.1, (i64 (y85.2.2.2.2.2.2.2.2.2.1 + 1)), y85.2.2.2.2.2.2.2.2.2.2.1, y85.2.2.2.2.2.2.2.2.2.2.2.1, (y85.2.2.2.2.2.2.2.2.2.2.2.2.2.1.map datF), (y85.2.2.2.2.2.2.2.2.2.2.2.2.2.2.1.map dat0), y85.2.2.2.2.2.2.2.2.2.2.2.2.2.2.2)) | false => (match zfd N (y85.1, y85.2.1, y85.2.2.1, y85.2.2.2.1, y85.2.2.2.2.1, y85.2.2.2.2.2.1, y85.2.2.2.2.2.2.1, y85.2.2.2.2.2.2.2.1, y85.2.2.2.2.2.2.2.2.1, y85.2.2.2.2.2.2.2.2.2.1, (decide (y85.2.2.2.2.2.2.1 >= 0)), y85.2.2.2.2.2.2.2.2.2.2.1, y85.2.2.2.2.2.2.2.2.2.2.2.1, y85.2.2.2.2.2.2.2.2.2.2.2.2.1, (y85.2.2.2.2.2.2.2.2.2.2.2.2.2.1.map datF), (y85.2.2.2.2.2.2.2.2.2.2.2.2.2.2.1.map dat0), y85.2.2.2.2.2.2.2.2.2.2.2.2.2.2.2) with | some y87 => (match y87 with | .inl z88 => (kn (z88.1, z88.2.1, z88.2.2.1, z88.2.2.2.1, z88.2.2.2.2.1, z88.2.2.2.2.2.2.2.1, (i64 (z88.2.2.2.2.2.2.2.2.1 + 1)), z88.2.2.2.2.2.2.2.2.2.1, z88.2.2.2.2.2.2.2.2.2.2.1, (z88.2.2.2.2.2.2.2.2.2.2.2.1.map datF), (z88.2.2.2.2.2.2.2.2.2.2.2.2.1.map dat0), z88.2.2.2.2.2.2.2.2.2.2.2.2.2)) | .inr z89 => (match z89.2.2.2.2.2.2.2.2.2.2.2.1[(z89.2.2.2.2.2.2.1 + 0)]? with | some x90 => (match Z1 29 x90 with | some l91 => (match (decide ((l91.length : Int) > 100)) with | true => (ke (.inl (z89.1, z89.2.1, ([] : qL), z89.2.2.2.1, 8, z89.2.2.2.2.1, ([] : qL), z89.2.2.2.2.2.2.2.2.2.2.1, (z89.2.2.2.2.2.2.2.2.2.2.2.1.map datF), (z89.2.2.2.2.2.2.2.2.2.2.2.2.1.map dat0), z89.2.2.2.2.2.2.2.2.2.2.2.2.2))) | false => (if (z89.1.length + [[(AV.v (.int .i64 z89.2.2.2.2.2.1))]].length) * 8 <= zh then (kn ((z89.1 ++ [[(AV.v (.int .i64 z89.2.2.2.2.2.1))]]), z89.2.1, z89.2.2.1, z89.2.2.2.1, z89.2.2.2.2.1, z89.2.2.2.2.2.2.2.1, (i64 (z89.2.2.2.2.2.2.2.2.1 + 1)), z89.2.2.2.2.2.2.2.2.2.1, z89.2.2.2.2.2.2.2.2.2.2.1, (z89.2.2.2.2.2.2.2.2.2.2.2.1.map datF), (z89.2.2.2.2.2.2.2.2.2.2.2.2.1.map dat0), z89.2.2.2.2.2.2.2.2.2.2.2.2.2)) else none)) | none => none) | none => none)) | none => none)) | none => none) | none => none) | none => none) | none => none) else none) else none) | _ => none) | none => none) | none => none) else none) | false => (ke (.inr (u16.1, u16.2.1, u16.2.2.2.1, u16.2.2.2.2.1, u16.2.2.2.2.2.2.2.1, u16.2.2.2.2.2.2.2.2.1, (u16.2.2.2.2.2.2.2.2.2.1.map datF), (u16.2.2.2.2.2.2.2.2.2.2.1.map dat0), u16.2.2.2.2.2.2.2.2.2.2.2))))
abbrev zpK (N : Nat) (x : qL × qL × qL × Int × Nat × Int × Int × qL × Nat × qA × qA × Nat × Nat) : Option ((qL × qL × qL × Int × Int × Nat × qL × Nat × qA × qA × Nat × Nat) ⊕ (qL × qL × Int × Nat × qL × Nat × qA × qA × Nat × Nat)) := (Zc N).L N x
def zdV (N : Nat) : FSpec where
 X := qL × qL × Int
 Y := qL × qL × Int
 ash := [[some 1], [some 25], [none]]
 S := ⟨[[some 1], [some 1], [none]], [], [], [], []⟩
 pat := fun a b => zk a fun v1 c2 => jg v1 fun c3 => zk c3 fun c4 c5 => Z3 1 c4 fun a0 => zQ c5 <| zk c2 fun v6 c7 => Z3 25 v6 fun a1 => zk c7 fun v8 c9 => jQ .i64 v8 fun a2 => zQ c9 <| zQ b <| some (a0, a1, a2)
 args := fun x => [(AV.agg [(AV.list 1 x.1 none)]), (AV.list 25 x.2.1 none), (AV.v (.int .i64 x.2.2))]
 ret := fun y => ⟨(AV.tup [(AV.agg [(AV.list 1 y.1 none)]), (AV.list 1 y.2.1 none), (AV.v (.int .i64 y.2.2))]), [], none, [], [], [], none⟩
 t := fun x α k => (match zno N x.1 with | some y1 => (match (!y1) with | true => (k (([] : qL), ([] : qL), 1)) | false => (match zfm N x.2.1 with | some y2 => (match (!y2) with | true => (k (([] : qL), ([] : qL), 1)) | false => (match ztU N (x.1, x.2.2) with | some y3 => (match (y3 != 0) with | true => (k (([] : qL), ([] : qL), y3)) | false => (match zjh N x.1 with | some y4 => (if 0 <= (x.2.1.length : Int) /\ (x.2.1.length : Int) <= (x.2.1.length : Int) /\ (x.2.1.length : Int).toNat * 1 <= zh then (match zsL N (x.1, x.2.1) with | some y5 => (match zpK N (([] : qL), x.2.1, y5, x.2.2, ((x.2.1.length : Int).toNat), (y5.length : Int), 0, ([] : qL), y4.1, ((y4.2.1.map (datJ y4.2.2.1 y4.2.2.2)).map datF), ((List.replicate (x.2.1.length : Int).toNat (AV.v (.bool false))).map dat0), y4.2.2) with | some y92 => (match y92 with | .inl z93 => (k (z93.2.2.2.2.2.2.1, z93.2.2.1, z93.2.2.2.2.1)) | .inr z94 => (match zog N (z94.1, z94.2.1, z94.2.2.1, z94.2.2.2.1, (z94.2.1.length : Int), 0, z94.2.2.2.2.1, z94.2.2.2.2.2.1, (z94.2.2.2.2.2.2.2.1.map dat0), (z94.2.2.2.2.2.2.1.map dat0)) with | some y105 => (match (decide (((y105.2.2.1 : Nat) : Int) > 500)) with | true => (k (([] : qL), ([] : qL), 8)) | false => (if y105.2.2.1 * 1 <= y105.2.2.2.length then (k ((zK (y105.2.2.2.take (y105.2.2.1 * 1)) 1 y105.2.2.1), y105.1, 0)) else none)) | none => none)) | none => none) | none => none) else none) | none => none)) | none => none)) | none => none)) | none => none)
abbrev zlo (N : Nat) (x : qL × qL × Int) : Option (qL × qL × Int) := (zdV N).d x
def ju (N : Nat) : List (Nat × LSpec) := [(16, Zc N), (27, Jk N), (33, jm N), (35, jx N), (46, ZG N)]
def jP : Code := Tryd.f10.body.getD .skip
theorem zof (N : Nat) : Par (ZG N).b := by
 intro x α β kn ke kn' ke' r r' h h1 h2
 revert h
 dsimp only [ZG]
 (repeat' (first | (with_reducible refine ze ?_ ?_) | split)) <;> intro h <;> first | exact h1 _ h | exact h2 _ h | cases h
theorem zk7 (N : Nat) : ji (JT qP [36, 66, 101, 156]) (zln N) Zk N (ju N) 46 jP (ZG N) := fun x α kn ke => by kernel_rfl
theorem zkS (N : Nat) : ZK qP Zk N (ju N) 46 (zc 46 jP) :=
 zD (zL qP [36, 66, 101, 156]) (zi _) zl Zk N (ju N) 46 jP (l := []) (by kernel_rfl) (by kernel_rfl) an (ZG N) rfl (fun s x hc h => by dsimp only [ZG] at h; exact zJ hc h (fun _ _ => rfl) rfl rfl rfl) (fun _ => rfl) (zk7 N) (zof N)
theorem znE (N : Nat) : Par (jx N).b := by
 intro x α β kn ke kn' ke' r r' h h1 h2
 revert h
 dsimp only [jx]
 (repeat' (first | (with_reducible refine ze ?_ ?_) | split)) <;> intro h <;> first | exact h1 _ h | exact h2 _ h | cases h
theorem zlN (N : Nat) : zlY (JT qP [36, 66, 101, 156]) (zln N) Zk N (ju N) 35 jP (jx N) := fun x α kn ke => by kernel_rfl
theorem zbr (N : Nat) : ZK qP Zk N (ju N) 35 (zc 35 jP) :=
 jW (zL qP [36, 66, 101, 156]) (zi _) zl Zk N (ju N) 35 jP (l := []) (by kernel_rfl) an (jx N) rfl (fun s x hc h => by dsimp only [jx] at h; exact za0 hc h (fun _ _ _ _ => rfl) rfl rfl) (zlN N) (znE N)
theorem znT (N : Nat) : Par (jm N).b := by
 intro x α β kn ke kn' ke' r r' h h1 h2
 revert h
 dsimp only [jm]
 (repeat' (first | (with_reducible refine ze ?_ ?_) | split)) <;> intro h <;> first | exact h1 _ h | exact h2 _ h | cases h
theorem zkH (N : Nat) : zlY (JT qP [36, 66, 101, 156]) (zln N) Zk N (ju N) 33 jP (jm N) := fun x α kn ke => by kernel_rfl
theorem zek (N : Nat) : ZK qP Zk N (ju N) 33 (zc 33 jP) :=
 jW (zL qP [36, 66, 101, 156]) (zi _) zl Zk N (ju N) 33 jP (l := [(35, zc 35 jP)]) (by kernel_rfl) (al (zbr N) an) (jm N) rfl (fun s x hc h => by dsimp only [jm] at h; exact za0 hc h (fun _ _ _ _ => rfl) rfl rfl) (zkH N) (znT N)
theorem zqf (N : Nat) : Par (Jk N).b := by
 intro x α β kn ke kn' ke' r r' h h1 h2
 revert h
 dsimp only [Jk]
 (repeat' (first | (with_reducible refine ze ?_ ?_) | split)) <;> intro h <;> first | exact h1 _ h | exact h2 _ h | cases h
theorem zkG (N : Nat) : zlY (JT qP [36, 66, 101, 156]) (zln N) Zk N (ju N) 27 jP (Jk N) := fun x α kn ke => by kernel_rfl
theorem zer (N : Nat) : ZK qP Zk N (ju N) 27 (zc 27 jP) :=
 jW (zL qP [36, 66, 101, 156]) (zi _) zl Zk N (ju N) 27 jP (l := []) (by kernel_rfl) an (Jk N) rfl (fun s x hc h => by dsimp only [Jk] at h; exact za0 hc h (fun _ _ _ _ => rfl) rfl rfl) (zkG N) (zqf N)
theorem zmp (N : Nat) : Par (Zc N).b := by
 intro x α β kn ke kn' ke' r r' h h1 h2
 revert h
 dsimp only [Zc]
 (repeat' (first | (with_reducible refine ze ?_ ?_) | split)) <;> intro h <;> first | exact h1 _ h | exact h2 _ h | cases h
theorem zly (N : Nat) : ji (JT qP [36, 66, 101, 156]) (zln N) Zk N (ju N) 16 jP (Zc N) := fun x α kn ke => by kernel_rfl
theorem zlp (N : Nat) : ZK qP Zk N (ju N) 16 (zc 16 jP) :=
 zD (zL qP [36, 66, 101, 156]) (zi _) zl Zk N (ju N) 16 jP (l := [(27, zc 27 jP), (33, zc 33 jP), (35, zc 35 jP)]) (by kernel_rfl) (by kernel_rfl) (al (zer N) (al (zek N) (al (zbr N) an))) (Zc N) rfl (fun s x hc h => by dsimp only [Zc] at h; exact za0 hc h (fun _ _ _ _ => rfl) rfl rfl) (fun _ => rfl) (zly N) (zmp N)
theorem zrJ (N : Nat) : Zd (zdV N).t := by
 intro x α β k k' r r' h h1
 revert h
 dsimp only [zdV]
 (repeat' (first | (with_reducible refine ze ?_ ?_) | split)) <;> intro h <;> first | exact h1 _ h | cases h
theorem zqK (N : Nat) : Zh (JT qP [36, 66, 101, 156]) (zln N) Zk (lam N (ju N)) Tryd.f10 (zdV N) := fun x => by kernel_rfl
theorem zxE (N : Nat) (a : List AV) (b : qL) (x : (zdV N).X) (h : (zdV N).pat a b = some x) : a = (zdV N).args x /\ b = (zdV N).bs x := by
 obtain ⟨v1, c2, rfl, g0⟩ := zb (show zk _ _ = some x from h)
 obtain ⟨c3, rfl, g1⟩ := zR g0; clear g0
 obtain ⟨c4, c5, rfl, g2⟩ := zb g1; clear g1
 obtain ⟨a0, rfl, g3⟩ := zr g2; clear g2
 obtain ⟨rfl, g4⟩ := zg g3; clear g3
 obtain ⟨v6, c7, rfl, g5⟩ := zb g4; clear g4
 obtain ⟨a1, rfl, g6⟩ := zr g5; clear g5
 obtain ⟨v8, c9, rfl, g7⟩ := zb g6; clear g6
 obtain ⟨a2, rfl, g8⟩ := zC g7; clear g7
 obtain ⟨rfl, g9⟩ := zg g8; clear g8
 obtain ⟨rfl, g10⟩ := zg g9; clear g9
 clear h
 cases g10
 exact ⟨rfl, rfl⟩
def zCi (N : Nat) : Ent qP := zy (zL qP [36, 66, 101, 156]) (zi _) zl 10 Tryd.f10 Tryd.func10 rfl Zk (lam N (ju N)) (zm (l := [(16, zc 16 jP), (27, zc 27 jP), (33, zc 33 jP), (35, zc 35 jP), (46, zc 46 jP)]) (al (zlp N) (al (zer N) (al (zek N) (al (zbr N) (al (zkS N) an))))) (by kernel_rfl)) (zdV N) (fun _ => ⟨rfl, rfl⟩) (zqK N) (zxE N) (zrJ N)
end
end Go.Proofs.YthdgnfcbehcplaaDoor
end
