/- Several texts as one (written by pack.py). -/
import Derived.Test.YthdgnfcbehcplaaDoorCnC
set_option linter.unusedVariables false
set_option linter.unusedSimpArgs false
set_option linter.unnecessarySimpa false
section
namespace Go.Proofs.YthdgnfcbehcplaaDoor
noncomputable section
open Go.RowKit
set_option maxRecDepth 4000
set_option maxHeartbeats 4000000
def zom : Nat -> Keep × Keep := anL []
def zz8 (N : Nat) : GamK := gam (P := qP) []
def zgG (N : Nat) : FSpec where
 X := ByteArray × ByteArray
 Y := Int
 ash := [[none], [none]]
 S := ⟨[[none]], [], [], [], []⟩
 pat := fun a b => rdA [.str, .str] [] a b fun ⟨a0, a1, _⟩ _ => (a0, a1)
 args := fun x => [(AV.v (.string x.1)), (AV.v (.string x.2))]
 ret := fun y => ⟨(AV.v (.int .i64 y)), [], none, [], [], [], none⟩
 t := fun x α k => (match (Go.Op.bytesLess x.1.toList x.2.toList) with | true => (k (-1)) | false => (match (!((Go.Op.bytesLess x.1.toList x.2.toList) || (x.1.toList == x.2.toList))) with | true => (k 1) | false => (k 0)))
abbrev zjp (N : Nat) (x : ByteArray × ByteArray) : Option (Int) := (zgG N).d x
theorem zoa (N : Nat) : Zd (zgG N).t := by
 intro x α β k k' r r' h h1
 revert h
 dsimp only [zgG]
 (repeat' (first | (with_reducible refine ze ?_ ?_) | split)) <;> intro h <;> first | exact h1 _ h | cases h
theorem zm8 (N : Nat) : Zf (zn qP) (zz8 N) zom (lam N []) Tryd.f103 (zgG N) := fun x => by kernel_rfl
def zBq (N : Nat) : Ent qP := zx (zd qP) (zi _) zl 103 Tryd.f103 Tryd.func103 rfl zom (lam N []) (zm (l := []) an (by kernel_rfl)) (zgG N) (fun _ => ⟨rfl, rfl⟩) (zm8 N) (fun _ _ _ h => zu h (fun _ _ => rfl) (fun _ _ => rfl)) (zoa N)
abbrev RK4 : List Ck := [.int .i64, .int .i64, .int .i64, .int .i64]
abbrev RT4 : Type := Int × Int × Int × Int × Unit
def Ren4 (e : RT4) : List AV := enc RK4 e
def JR : Nat -> Keep × Keep := anL [(4, qK [27, 28] [] [], qK [4] [] [])]
def zwI (N : Nat) : GamK := gam (P := qP) [zBq N]
def zaD (N : Nat) : LSpec where
 X := RT4 × Int
 Y := (Int) ⊕ (Unit)
 p := fun s => rdS 35 0 [(27, .agg RK4), (28, .int .i64)] [] s fun ⟨a0, a1, _⟩ _ => (a0, a1)
 st := fun u4 => mkS 35 [(27, (AV.agg (Ren4 u4.1))), (28, (qI u4.2))] [] (JR 4).1.toks 0
 out := fun y => match y with
  | .inl y => (.ret, mkS 35 [(4, (qI y))] [] (JR 4).2.toks 0)
  | .inr y => (.exit 0, mkS 35 [] [] (JR 4).2.toks 0)
 b := fun u4 α kn ke => (match (decide (u4.2 < 4)) with | true => (if 0 <= u4.2 /\ u4.2 < 4 then (match [(AV.v (.int .i64 u4.1.1)), (AV.v (.int .i64 u4.1.2.1)), (AV.v (.int .i64 u4.1.2.2.1)), (AV.v (.int .i64 u4.1.2.2.2.1))][(u4.2.toNat * 1)]? with | some x5 => (match x5 with | .v (.int q7 n6) => (if q7 = .i64 then (match (n6 != 0) with | true => (ke (.inl n6)) | false => (kn (u4.1, (i64 (u4.2 + 1))))) else none) | _ => none) | none => none) else none) | false => (ke (.inr ())))
abbrev zw3 (N : Nat) (x : RT4 × Int) : Option ((Int) ⊕ (Unit)) := (zaD N).L N x
def zg7 (N : Nat) : FSpec where
 X := RT2 × RT2
 Y := Int
 ash := [[none, none, none, none], [none, none, none, none]]
 S := ⟨[[none]], [], [], [], []⟩
 pat := fun a b => rdA [.agg RK2, .agg RK2] [] a b fun ⟨a0, a1, _⟩ _ => (a0, a1)
 args := fun x => [(AV.agg (zAC x.1)), (AV.agg (zAC x.2))]
 ret := fun y => ⟨(AV.v (.int .i64 y)), [], none, [], [], [], none⟩
 t := fun x α k => (match zjp N (x.1.1, x.2.1) with | some y1 => (match zjp N (x.1.2.1, x.2.2.1) with | some y2 => (match zjp N (x.1.2.2.1, x.2.2.2.1) with | some y3 => (match zjp N (x.1.2.2.2.1, x.2.2.2.2.1) with | some y4 => (match zw3 N ((y1, y2, y3, y4, ()), 0) with | some y8 => (match y8 with | .inl z9 => (k z9) | .inr z10 => (k 0)) | none => none) | none => none) | none => none) | none => none) | none => none)
abbrev zz5 (N : Nat) (x : RT2 × RT2) : Option (Int) := (zg7 N).d x
def zdt (N : Nat) : List (Nat × LSpec) := [(4, zaD N)]
def zjh : Code := Tryd.f101.body.getD .skip
theorem zp1 (N : Nat) : Par (zaD N).b := by
 intro x α β kn ke kn' ke' r r' h h1 h2
 revert h
 dsimp only [zaD]
 (repeat' (first | (with_reducible refine ze ?_ ?_) | split)) <;> intro h <;> first | exact h1 _ h | exact h2 _ h | cases h
theorem zjK (N : Nat) : jc (zn qP) (zwI N) JR N (zdt N) 4 zjh (zaD N) := fun x α kn ke => by kernel_rfl
theorem zko (N : Nat) : ZE qP JR N (zdt N) 4 (zc 4 zjh) :=
 zD (zd qP) (zi _) zl JR N (zdt N) 4 zjh (l := []) (by kernel_rfl) (by kernel_rfl) an (zaD N) rfl (fun s x hc h => by dsimp only [zaD] at h; exact zI hc h (fun _ _ => rfl) rfl rfl rfl) (fun _ => rfl) (zjK N) (zp1 N)
theorem zmn (N : Nat) : Zd (zg7 N).t := by
 intro x α β k k' r r' h h1
 revert h
 dsimp only [zg7]
 (repeat' (first | (with_reducible refine ze ?_ ?_) | split)) <;> intro h <;> first | exact h1 _ h | cases h
theorem zmc (N : Nat) : Zf (zn qP) (zwI N) JR (lam N (zdt N)) Tryd.f101 (zg7 N) := fun x => by kernel_rfl
def zA5 (N : Nat) : Ent qP := zx (zd qP) (zi _) zl 101 Tryd.f101 Tryd.func101 rfl JR (lam N (zdt N)) (zm (l := [(4, zc 4 zjh)]) (al (zko N) an) (by kernel_rfl)) (zg7 N) (fun _ => ⟨rfl, rfl⟩) (zmc N) (fun _ _ _ h => zu h (fun _ _ => rfl) (fun _ _ => rfl)) (zmn N)
abbrev RK5 : List Ck := [.int .i64, .int .i64, .int .i64, .int .i64, .int .i64, .int .i64, .int .i64, .int .i64, .int .i64, .int .i64]
abbrev RT5 : Type := Int × Int × Int × Int × Int × Int × Int × Int × Int × Int × Unit
def Ren5 (e : RT5) : List AV := enc RK5 e
def zb9 : Nat -> Keep × Keep := anL [(9, qK [41, 42] [] [], qK [4] [] [])]
def zA4 (N : Nat) : GamK := gam (P := qP) [zA5 N]
def zdp (N : Nat) : LSpec where
 X := RT5 × Int
 Y := (Int) ⊕ (Unit)
 p := fun s => rdS 56 0 [(41, .agg RK5), (42, .int .i64)] [] s fun ⟨a0, a1, _⟩ _ => (a0, a1)
 st := fun u9 => mkS 56 [(41, (AV.agg (Ren5 u9.1))), (42, (qI u9.2))] [] (zb9 9).1.toks 0
 out := fun y => match y with
  | .inl y => (.ret, mkS 56 [(4, (qI y))] [] (zb9 9).2.toks 0)
  | .inr y => (.exit 0, mkS 56 [] [] (zb9 9).2.toks 0)
 b := fun u9 α kn ke => (match (decide (u9.2 < 5)) with | true => (if 0 <= u9.2 /\ u9.2 < 5 then (match ([(AV.v (.int .i64 u9.1.1)), (AV.v (.int .i64 u9.1.2.1)), (AV.v (.int .i64 u9.1.2.2.1)), (AV.v (.int .i64 u9.1.2.2.2.1)), (AV.v (.int .i64 u9.1.2.2.2.2.1)), (AV.v (.int .i64 u9.1.2.2.2.2.2.1)), (AV.v (.int .i64 u9.1.2.2.2.2.2.2.1)), (AV.v (.int .i64 u9.1.2.2.2.2.2.2.2.1)), (AV.v (.int .i64 u9.1.2.2.2.2.2.2.2.2.1)), (AV.v (.int .i64 u9.1.2.2.2.2.2.2.2.2.2.1))].drop (u9.2.toNat * 2)) with | x2 :: r3 => (match x2 with | .v (.int q5 n4) => (if q5 = .i64 then (match r3 with | x6 :: r7 => (match x6 with | .v (.int q9 n8) => (if q9 = .i64 then (match (decide (n4 < n8)) with | true => (ke (.inl (-1))) | false => (match (decide (n4 > n8)) with | true => (ke (.inl 1)) | false => (kn (u9.1, (i64 (u9.2 + 1)))))) else none) | _ => none) | [] => none) else none) | _ => none) | [] => none) else none) | false => (ke (.inr ())))
abbrev zAg (N : Nat) (x : RT5 × Int) : Option ((Int) ⊕ (Unit)) := (zdp N).L N x
def zmP (N : Nat) : FSpec where
 X := RT1 × RT1
 Y := Int
 ash := [[none, none, none, none, none, none, none, none, none], [none, none, none, none, none, none, none, none, none]]
 S := ⟨[[none]], [], [], [], []⟩
 pat := fun a b => rdA [.agg RK1, .agg RK1] [] a b fun ⟨a0, a1, _⟩ _ => (a0, a1)
 args := fun x => [(AV.agg (zw x.1)), (AV.agg (zw x.2))]
 ret := fun y => ⟨(AV.v (.int .i64 y)), [], none, [], [], [], none⟩
 t := fun x α k => (match zz5 N ((zfi x.1), (zfi x.2)) with | some y1 => (match (y1 != 0) with | true => (k y1) | false => (match zAg N ((x.1.2.2.2.2.1, x.2.2.2.2.2.1, x.1.2.2.2.2.2.1, x.2.2.2.2.2.2.1, x.1.2.2.2.2.2.2.1, x.2.2.2.2.2.2.2.1, x.1.2.2.2.2.2.2.2.1, x.2.2.2.2.2.2.2.2.1, x.1.2.2.2.2.2.2.2.2.1, x.2.2.2.2.2.2.2.2.2.1, ()), 0) with | some y10 => (match y10 with | .inl z11 => (k z11) | .inr z12 => (k 0)) | none => none)) | none => none)
abbrev zAV (N : Nat) (x : RT1 × RT1) : Option (Int) := (zmP N).d x
def zgr (N : Nat) : List (Nat × LSpec) := [(9, zdp N)]
def zqY : Code := Tryd.f97.body.getD .skip
theorem zro (N : Nat) : Par (zdp N).b := by
 intro x α β kn ke kn' ke' r r' h h1 h2
 revert h
 dsimp only [zdp]
 (repeat' (first | (with_reducible refine ze ?_ ?_) | split)) <;> intro h <;> first | exact h1 _ h | exact h2 _ h | cases h
theorem zo9 (N : Nat) : jc (zn qP) (zA4 N) zb9 N (zgr N) 9 zqY (zdp N) := fun x α kn ke => by kernel_rfl
theorem zmL (N : Nat) : ZE qP zb9 N (zgr N) 9 (zc 9 zqY) :=
 zD (zd qP) (zi _) zl zb9 N (zgr N) 9 zqY (l := []) (by kernel_rfl) (by kernel_rfl) an (zdp N) rfl (fun s x hc h => by dsimp only [zdp] at h; exact zI hc h (fun _ _ => rfl) rfl rfl rfl) (fun _ => rfl) (zo9 N) (zro N)
theorem zu4 (N : Nat) : Zd (zmP N).t := by
 intro x α β k k' r r' h h1
 revert h
 dsimp only [zmP]
 (repeat' (first | (with_reducible refine ze ?_ ?_) | split)) <;> intro h <;> first | exact h1 _ h | cases h
theorem zsU (N : Nat) : Zf (zn qP) (zA4 N) zb9 (lam N (zgr N)) Tryd.f97 (zmP N) := fun x => by kernel_rfl
def zzS (N : Nat) : Ent qP := zx (zd qP) (zi _) zl 97 Tryd.f97 Tryd.func97 rfl zb9 (lam N (zgr N)) (zm (l := [(9, zc 9 zqY)]) (al (zmL N) an) (by kernel_rfl)) (zmP N) (fun _ => ⟨rfl, rfl⟩) (zsU N) (fun _ _ _ h => zu h (fun _ _ => rfl) (fun _ _ => rfl)) (zu4 N)
def zwK : Nat -> Keep × Keep := anL []
def zDy (N : Nat) : GamK := gam (P := qP) [zzS N]
def zn2 (N : Nat) : FSpec where
 X := RT1 × RT1
 Y := Int
 ash := [[none, none, none, none, none, none, none, none, none], [none, none, none, none, none, none, none, none, none]]
 S := ⟨[[none]], [], [], [], []⟩
 pat := fun a b => rdA [.agg RK1, .agg RK1] [] a b fun ⟨a0, a1, _⟩ _ => (a0, a1)
 args := fun x => [(AV.agg (zw x.1)), (AV.agg (zw x.2))]
 ret := fun y => ⟨(AV.v (.int .i64 y)), [], none, [], [], [], none⟩
 t := fun x α k => (match (decide (x.1.2.2.2.2.1 < x.2.2.2.2.2.1)) with | true => (k (-1)) | false => (match (decide (x.1.2.2.2.2.1 > x.2.2.2.2.2.1)) with | true => (k 1) | false => (match zAV N x with | some y1 => (k y1) | none => none)))
abbrev zyI (N : Nat) (x : RT1 × RT1) : Option (Int) := (zn2 N).d x
theorem zrb (N : Nat) : Zd (zn2 N).t := by
 intro x α β k k' r r' h h1
 revert h
 dsimp only [zn2]
 (repeat' (first | (with_reducible refine ze ?_ ?_) | split)) <;> intro h <;> first | exact h1 _ h | cases h
theorem zuP (N : Nat) : Zf (zn qP) (zDy N) zwK (lam N []) Tryd.f81 (zn2 N) := fun x => by kernel_rfl
def zzl (N : Nat) : Ent qP := zx (zd qP) (zi _) zl 81 Tryd.f81 Tryd.func81 rfl zwK (lam N []) (zm (l := []) an (by kernel_rfl)) (zn2 N) (fun _ => ⟨rfl, rfl⟩) (zuP N) (fun _ _ _ h => zu h (fun _ _ => rfl) (fun _ _ => rfl)) (zrb N)
def zdi : Nat -> Keep × Keep := anL [(5, ⟨[2, 3, 4], [], [2, 3], [(0, 9)], [], [], [], [], false, none, []⟩, qK [2, 3] [] [2, 3])]
def zzx (N : Nat) : GamK := gam (P := qP) [zzl N]
def zdF (N : Nat) : LSpec where
 X := qL × Int × RT1 × RT1
 Y := (RT1 × RT1)
 p := fun s => rdS 26 0 [(0, .lst 9), (2, .ptr 2 0), (3, .ptr 3 0), (4, .int .i64)] [(2, .row RK1), (3, .row RK1)] s fun ⟨a0, _, _, a1, _⟩ ⟨a2, a3, _⟩ => (a0, a1, a2, a3)
 st := fun u5 => mkS 26 [(0, (AV.list 9 u5.1 none)), (2, (AV.ptr 2 0)), (3, (AV.ptr 3 0)), (4, (qI u5.2.1))] [(2, (zw u5.2.2.1)), (3, (zw u5.2.2.2))] (zdi 5).1.toks 0
 out := fun y => (.exit 0, mkS 26 [(2, (AV.ptr 2 0)), (3, (AV.ptr 3 0))] [(2, (zw y.1)), (3, (zw y.2))] (zdi 5).2.toks 0)
 b := fun u5 α kn ke => (match (decide (u5.2.1 < (u5.1.length : Int))) with | true => (if 0 <= u5.2.1 then (match u5.1[u5.2.1.toNat]? with | some c8 => (match Jt c8 with | some e9 => (match zyI N (e9, u5.2.2.2) with | some y10 => (match (decide (y10 < 0)) with | true => (if 0 <= u5.2.1 then (match u5.1[u5.2.1.toNat]? with | some c11 => (match Jt c11 with | some e12 => (kn (u5.1, (i64 (u5.2.1 + 1)), u5.2.2.1, e12)) | none => none) | none => none) else none) | false => (kn (u5.1, (i64 (u5.2.1 + 1)), u5.2.2))) | none => none) | none => none) | none => none) else none) | false => (ke u5.2.2))
abbrev zAk (N : Nat) (x : qL × Int × RT1 × RT1) : Option ((RT1 × RT1)) := (zdF N).L N x
def zlR (N : Nat) : FSpec where
 X := qL
 Y := RT1
 ash := [[some 9]]
 S := ⟨[[none, none, none, none, none, none, none, none, none]], [], [], [], []⟩
 pat := fun a b => rdA [.lst 9] [] a b fun ⟨a0, _⟩ _ => a0
 args := fun x => [(AV.list 9 x none)]
 ret := fun y => ⟨(AV.agg (zw y)), [], none, [], [], [], none⟩
 t := fun x α k => (if 0 <= (0 : Int) then (match x[(0 : Int).toNat]? with | some c1 => (match Jt c1 with | some e2 => (match zAk N (x, 1, ((⟨#[]⟩ : ByteArray), (⟨#[]⟩ : ByteArray), (⟨#[]⟩ : ByteArray), (⟨#[]⟩ : ByteArray), 0, 0, 0, 0, 0, ()), e2) with | some y13 => (k y13.2) | none => none) | none => none) | none => none) else none)
abbrev zzW (N : Nat) (x : qL) : Option (RT1) := (zlR N).d x
def zgk (N : Nat) : List (Nat × LSpec) := [(5, zdF N)]
def ztk : Code := Tryd.f79.body.getD .skip
theorem zta (N : Nat) : Par (zdF N).b := by
 intro x α β kn ke kn' ke' r r' h h1 h2
 revert h
 dsimp only [zdF]
 (repeat' (first | (with_reducible refine ze ?_ ?_) | split)) <;> intro h <;> first | exact h1 _ h | exact h2 _ h | cases h
theorem zof (N : Nat) : jc (zn qP) (zzx N) zdi N (zgk N) 5 ztk (zdF N) := fun x α kn ke => by kernel_rfl
theorem zo7 (N : Nat) : ZE qP zdi N (zgk N) 5 (zc 5 ztk) :=
 zD (zd qP) (zi _) zl zdi N (zgk N) 5 ztk (l := []) (by kernel_rfl) (by kernel_rfl) an (zdF N) rfl (fun s x hc h => by dsimp only [zdF] at h; exact zI hc h (fun _ _ => rfl) rfl rfl rfl) (fun _ => rfl) (zof N) (zta N)
theorem zrv (N : Nat) : Zd (zlR N).t := by
 intro x α β k k' r r' h h1
 revert h
 dsimp only [zlR]
 (repeat' (first | (with_reducible refine ze ?_ ?_) | split)) <;> intro h <;> first | exact h1 _ h | cases h
theorem zqj (N : Nat) : Zf (zn qP) (zzx N) zdi (lam N (zgk N)) Tryd.f79 (zlR N) := fun x => by kernel_rfl
def zDN (N : Nat) : Ent qP := zx (zd qP) (zi _) zl 79 Tryd.f79 Tryd.func79 rfl zdi (lam N (zgk N)) (zm (l := [(5, zc 5 ztk)]) (al (zo7 N) an) (by kernel_rfl)) (zlR N) (fun _ => ⟨rfl, rfl⟩) (zqj N) (fun _ _ _ h => zu h (fun _ _ => rfl) (fun _ _ => rfl)) (zrv N)
def JD : Nat -> Keep × Keep := anF [(5, ⟨[4], [], [], [(0, 9)], [], [(3, 9)], [], [], false, none, []⟩, ⟨[], [], [], [], [], [(3, 9)], [], [], false, none, []⟩), (14, ⟨[3, 4, 5], [], [1000003], [(0, 9)], [], [], [], [1000003], false, none, []⟩, ⟨[3, 4, 5], [], [1000003], [(0, 9)], [], [], [], [1000003], false, none, []⟩)] [(100012, ([3], []))]
def zxO (N : Nat) : GamK := gam (P := qP) [zzS N]
def zaA (N : Nat) : LSpec where
 X := qL × Nat × Int × Int × qA
 Y := (qL × Nat × Int × Int × qA)
 p := fun s => rdS 68 0 [(0, .lst 9), (3, .vs0 1000003 9), (4, .int .i64), (5, .int .i64)] [(1000003, .tt)] s fun ⟨a0, a1, a2, a3, _⟩ ⟨a4, _⟩ => (a0, a1, a2, a3, a4)
 st := fun u14 => mkS 68 [(0, (AV.list 9 u14.1 none)), (3, (AV.vs 1000003 0 u14.2.1 9)), (4, (qI u14.2.2.1)), (5, (qI u14.2.2.2.1))] [(1000003, u14.2.2.2.2)] (JD 14).1.toks 0
 out := fun y => (.exit 2, mkS 68 [(0, (AV.list 9 y.1 none)), (3, (AV.vs 1000003 0 y.2.1 9)), (4, (qI y.2.2.1)), (5, (qI y.2.2.2.1))] [(1000003, y.2.2.2.2)] (JD 14).2.toks 0)
 b := fun u14 α kn ke => (match (decide (u14.2.2.2.1 > 0)) with | true => (if 0 <= (i64 (u14.2.2.2.1 - 1)) /\ (i64 (u14.2.2.2.1 - 1)) < (u14.2.1 : Int) then (match Jt (u14.2.2.2.2.drop ((0 + (i64 (u14.2.2.2.1 - 1)).toNat) * 9)) with | some e5 => (if 0 <= u14.2.2.1 then (match u14.1[u14.2.2.1.toNat]? with | some c6 => (match Jt c6 with | some e7 => (match zAV N (e5, e7) with | some y8 => (match (decide (y8 > 0)) with | true => (kn (u14.1, u14.2.1, u14.2.2.1, (i64 (u14.2.2.2.1 - 1)), (u14.2.2.2.2.map dat0))) | false => (ke (u14.1, u14.2.1, u14.2.2.1, u14.2.2.2.1, (u14.2.2.2.2.map dat0)))) | none => none) | none => none) | none => none) else none) | none => none) else none) | false => (ke (u14.1, u14.2.1, u14.2.2.1, u14.2.2.2.1, (u14.2.2.2.2.map dat0))))
abbrev zyQ (N : Nat) (x : qL × Nat × Int × Int × qA) : Option ((qL × Nat × Int × Int × qA)) := (zaA N).L N x
def zdl (N : Nat) : LSpec where
 X := Nat × qL × Int × qA
 Y := (Nat × qA)
 p := fun s => rdS 68 0 [(3, .vs0 1000003 9), (0, .lst 9), (4, .int .i64)] [(1000003, .tt)] s fun ⟨a0, a1, a2, _⟩ ⟨a3, _⟩ => (a0, a1, a2, a3)
 st := fun u5 => mkS 68 [(3, (AV.vs 1000003 0 u5.1 9)), (0, (AV.list 9 u5.2.1 none)), (4, (qI u5.2.2.1))] [(1000003, u5.2.2.2)] (JD 5).1.toks 0
 out := fun y => (.exit 0, mkS 68 [(3, (AV.vs 1000003 0 y.1 9))] [(1000003, y.2)] (JD 5).2.toks 0)
 b := fun u5 α kn ke => (match (decide (u5.2.2.1 < (u5.2.1.length : Int))) with | true => (match zyQ N (u5.2.1, u5.1, u5.2.2.1, ((u5.1 : Nat) : Int), (u5.2.2.2.map dat0)) with | some y9 => (match (decide (y9.2.2.2.1 > 0)) with | true => (if 0 <= (i64 (y9.2.2.2.1 - 1)) /\ (i64 (y9.2.2.2.1 - 1)) < (y9.2.1 : Int) then (match Jt (y9.2.2.2.2.drop ((0 + (i64 (y9.2.2.2.1 - 1)).toNat) * 9)) with | some e10 => (if 0 <= y9.2.2.1 then (match y9.1[y9.2.2.1.toNat]? with | some c11 => (match Jt c11 with | some e12 => (match (((e10.1 == e12.1) && ((e10.2.1 == e12.2.1) && ((e10.2.2.1 == e12.2.2.1) && ((e10.2.2.2.1 == e12.2.2.2.1) && true)))) && ((e10.2.2.2.2.1 == e12.2.2.2.2.1) && ((e10.2.2.2.2.2.1 == e12.2.2.2.2.2.1) && ((e10.2.2.2.2.2.2.1 == e12.2.2.2.2.2.2.1) && ((e10.2.2.2.2.2.2.2.1 == e12.2.2.2.2.2.2.2.1) && ((e10.2.2.2.2.2.2.2.2.1 == e12.2.2.2.2.2.2.2.2.1) && true)))))) with | true => (kn (y9.2.1, y9.1, (i64 (y9.2.2.1 + 1)), (y9.2.2.2.2.map dat0))) | false => (if 0 <= y9.2.2.1 then (match y9.1[y9.2.2.1.toNat]? with | some c13 => (match Jt c13 with | some e14 => (if y9.2.1 * 9 <= y9.2.2.2.2.length /\ (y9.2.1 + [(zw e14)].length) * 104 <= zh then (if 0 <= (i64 (y9.2.2.2.1 + 1)) /\ (i64 (y9.2.2.2.1 + 1)) <= (((y9.2.1 + [(zw e14)].length) : Nat) : Int) then (if 0 <= y9.2.2.2.1 /\ y9.2.2.2.1 <= (((y9.2.1 + [(zw e14)].length) : Nat) : Int) then (if ((0 + y9.2.2.2.1.toNat) + ((y9.2.1 + [(zw e14)].length) - y9.2.2.2.1.toNat)) * 9 <= (y9.2.2.2.2.take (y9.2.1 * 9) ++ [(zw e14)].flatten).length then (if ((0 + (i64 (y9.2.2.2.1 + 1)).toNat) + ((y9.2.1 + [(zw e14)].length) - (i64 (y9.2.2.2.1 + 1)).toNat)) * 9 <= (y9.2.2.2.2.take (y9.2.1 * 9) ++ [(zw e14)].flatten).length then (if 0 <= y9.2.2.1 then (match y9.1[y9.2.2.1.toNat]? with | some c15 => (match Jt c15 with | some e16 => (if 0 <= y9.2.2.2.1 /\ y9.2.2.2.1 < (((y9.2.1 + [(zw e14)].length) : Nat) : Int) then (if ((0 + y9.2.2.2.1.toNat) * 9) + 9 <= (splice (y9.2.2.2.2.take (y9.2.1 * 9) ++ [(zw e14)].flatten) ((0 + (i64 (y9.2.2.2.1 + 1)).toNat) * 9) (((y9.2.2.2.2.take (y9.2.1 * 9) ++ [(zw e14)].flatten).drop ((0 + y9.2.2.2.1.toNat) * 9)).take ((Nat.min ((y9.2.1 + [(zw e14)].length) - y9.2.2.2.1.toNat) ((y9.2.1 + [(zw e14)].length) - (i64 (y9.2.2.2.1 + 1)).toNat)) * 9))).length then (kn ((y9.2.1 + [(zw e14)].length), y9.1, (i64 (y9.2.2.1 + 1)), ((splice (splice (y9.2.2.2.2.take (y9.2.1 * 9) ++ [(zw e14)].flatten) ((0 + (i64 (y9.2.2.2.1 + 1)).toNat) * 9) (((y9.2.2.2.2.take (y9.2.1 * 9) ++ [(zw e14)].flatten).drop ((0 + y9.2.2.2.1.toNat) * 9)).take ((Nat.min ((y9.2.1 + [(zw e14)].length) - y9.2.2.2.1.toNat) ((y9.2.1 + [(zw e14)].length) - (i64 (y9.2.2.2.1 + 1)).toNat)) * 9))) ((0 + y9.2.2.2.1.toNat) * 9) (zw e16)).map dat0))) else none) else none) | none => none) | none => none) else none) else none) else none) else none) else none) else none) | none => none) | none => none) else none)) | none => none) | none => none) else none) | none => none) else none) | false => (if 0 <= y9.2.2.1 then (match y9.1[y9.2.2.1.toNat]? with | some c17 => (match Jt c17 with | some e18 => (if y9.2.1 * 9 <= y9.2.2.2.2.length /\ (y9.2.1 + [(zw e18)].length) * 104 <= zh then (if 0 <= (i64 (y9.2.2.2.1 + 1)) /\ (i64 (y9.2.2.2.1 + 1)) <= (((y9.2.1 + [(zw e18)].length) : Nat) : Int) then (if 0 <= y9.2.2.2.1 /\ y9.2.2.2.1 <= (((y9.2.1 + [(zw e18)].length) : Nat) : Int) then (if ((0 + y9.2.2.2.1.toNat) + ((y9.2.1 + [(zw e18)].length) - y9.2.2.2.1.toNat)) * 9 <= (y9.2.2.2.2.take (y9.2.1 * 9) ++ [(zw e18)].flatten).length then (if ((0 + (i64 (y9.2.2.2.1 + 1)).toNat) + ((y9.2.1 + [(zw e18)].length) - (i64 (y9.2.2.2.1 + 1)).toNat)) * 9 <= (y9.2.2.2.2.take (y9.2.1 * 9) ++ [(zw e18)].flatten).length then (if 0 <= y9.2.2.1 then (match y9.1[y9.2.2.1.toNat]? with | some c19 => (match Jt c19 with | some e20 => (if 0 <= y9.2.2.2.1 /\ y9.2.2.2.1 < (((y9.2.1 + [(zw e18)].length) : Nat) : Int) then (if ((0 + y9.2.2.2.1.toNat) * 9) + 9 <= (splice (y9.2.2.2.2.take (y9.2.1 * 9) ++ [(zw e18)].flatten) ((0 + (i64 (y9.2.2.2.1 + 1)).toNat) * 9) (((y9.2.2.2.2.take (y9.2.1 * 9) ++ [(zw e18)].flatten).drop ((0 + y9.2.2.2.1.toNat) * 9)).take ((Nat.min ((y9.2.1 + [(zw e18)].length) - y9.2.2.2.1.toNat) ((y9.2.1 + [(zw e18)].length) - (i64 (y9.2.2.2.1 + 1)).toNat)) * 9))).length then (kn ((y9.2.1 + [(zw e18)].length), y9.1, (i64 (y9.2.2.1 + 1)), ((splice (splice (y9.2.2.2.2.take (y9.2.1 * 9) ++ [(zw e18)].flatten) ((0 + (i64 (y9.2.2.2.1 + 1)).toNat) * 9) (((y9.2.2.2.2.take (y9.2.1 * 9) ++ [(zw e18)].flatten).drop ((0 + y9.2.2.2.1.toNat) * 9)).take ((Nat.min ((y9.2.1 + [(zw e18)].length) - y9.2.2.2.1.toNat) ((y9.2.1 + [(zw e18)].length) - (i64 (y9.2.2.2.1 + 1)).toNat)) * 9))) ((0 + y9.2.2.2.1.toNat) * 9) (zw e20)).map dat0))) else none) else none) | none => none) | none => none) else none) else none) else none) else none) else none) else none) | none => none) | none => none) else none)) | none => none) | false => (ke (u5.1, (u5.2.2.2.map dat0))))
abbrev zAA (N : Nat) (x : Nat × qL × Int × qA) : Option ((Nat × qA)) := (zdl N).L N x
def zlI (N : Nat) : FSpec where
 X := qL
 Y := qL
 ash := [[some 9]]
 S := ⟨[[some 2000009]], [], [], [], []⟩
 pat := fun a b => rdA [.lst 9] [] a b fun ⟨a0, _⟩ _ => a0
 args := fun x => [(AV.list 9 x none)]
 ret := fun y => ⟨(AV.list 9 y (some 2560000000)), [], none, [], [2560000000], [], none⟩
 t := fun x α k => (match zAA N (0, x, 0, ([] : List AV)) with | some y21 => (if y21.1 * 9 <= y21.2.length then (k (zJ (y21.2.take (y21.1 * 9)) 9 y21.1)) else none) | none => none)
abbrev zBE (N : Nat) (x : qL) : Option (qL) := (zlI N).d x
def zbT (N : Nat) : List (Nat × LSpec) := [(5, zdl N), (14, zaA N)]
def zfr : Code := Tryd.f80.body.getD .skip
theorem znr (N : Nat) : Par (zaA N).b := by
 intro x α β kn ke kn' ke' r r' h h1 h2
 revert h
 dsimp only [zaA]
 (repeat' (first | (with_reducible refine ze ?_ ?_) | split)) <;> intro h <;> first | exact h1 _ h | exact h2 _ h | cases h
theorem zjI (N : Nat) : jc (JL qP [51]) (zxO N) JD N (zbT N) 14 zfr (zaA N) := fun x α kn ke => by kernel_rfl
theorem zeQ (N : Nat) : ZE qP JD N (zbT N) 14 (zc 14 zfr) :=
 zD (zK qP [51]) (zi _) zl JD N (zbT N) 14 zfr (l := []) (by kernel_rfl) (by kernel_rfl) an (zaA N) rfl (fun s x hc h => by dsimp only [zaA] at h; exact zI hc h (fun _ _ => rfl) rfl rfl rfl) (fun _ => rfl) (zjI N) (znr N)
theorem zsu (N : Nat) : Par (zdl N).b := by
 intro x α β kn ke kn' ke' r r' h h1 h2
 revert h
 dsimp only [zdl]
 (repeat' (first | (with_reducible refine ze ?_ ?_) | split)) <;> intro h <;> first | exact h1 _ h | exact h2 _ h | cases h
theorem zlG (N : Nat) : jc (JL qP [51]) (zxO N) JD N (zbT N) 5 zfr (zdl N) := fun x α kn ke => by kernel_rfl
theorem zlQ (N : Nat) : ZE qP JD N (zbT N) 5 (zc 5 zfr) :=
 zD (zK qP [51]) (zi _) zl JD N (zbT N) 5 zfr (l := [(14, zc 14 zfr)]) (by kernel_rfl) (by kernel_rfl) (al (zeQ N) an) (zdl N) rfl (fun s x hc h => by dsimp only [zdl] at h; exact zI hc h (fun _ _ => rfl) rfl rfl rfl) (fun _ => rfl) (zlG N) (zsu N)
theorem zty (N : Nat) : Zd (zlI N).t := by
 intro x α β k k' r r' h h1
 revert h
 dsimp only [zlI]
 (repeat' (first | (with_reducible refine ze ?_ ?_) | split)) <;> intro h <;> first | exact h1 _ h | cases h
theorem zrk (N : Nat) : Zf (JL qP [51]) (zxO N) JD (lam N (zbT N)) Tryd.f80 (zlI N) := fun x => by kernel_rfl
def zCM (N : Nat) : Ent qP := zx (zK qP [51]) (zi _) zl 80 Tryd.f80 Tryd.func80 rfl JD (lam N (zbT N)) (zm (l := [(5, zc 5 zfr), (14, zc 14 zfr)]) (al (zlQ N) (al (zeQ N) an)) (by kernel_rfl)) (zlI N) (fun _ => ⟨rfl, rfl⟩) (zrk N) (fun _ _ _ h => zu h (fun _ _ => rfl) (fun _ _ => rfl)) (zty N)
def zbA : Nat -> Keep × Keep := anL [(8, ⟨[5], [], [], [(0, 9), (1, 9)], [], [], [], [], false, none, []⟩, qK [4] [] [])]
def zAJ (N : Nat) : GamK := gam (P := qP) []
def Z1 (N : Nat) : LSpec where
 X := qL × qL × Int
 Y := (Bool) ⊕ (Unit)
 p := fun s => rdS 26 0 [(0, .lst 9), (1, .lst 9), (5, .int .i64)] [] s fun ⟨a0, a1, a2, _⟩ _ => (a0, a1, a2)
 st := fun u8 => mkS 26 [(0, (AV.list 9 u8.1 none)), (1, (AV.list 9 u8.2.1 none)), (5, (qI u8.2.2))] [] (zbA 8).1.toks 0
 out := fun y => match y with
  | .inl y => (.ret, mkS 26 [(4, (AV.v (.bool y)))] [] (zbA 8).2.toks 0)
  | .inr y => (.exit 0, mkS 26 [] [] (zbA 8).2.toks 0)
 b := fun u8 α kn ke => (match (decide (u8.2.2 < (u8.1.length : Int))) with | true => (if 0 <= u8.2.2 then (match u8.1[u8.2.2.toNat]? with | some c1 => (match Jt c1 with | some e2 => (if 0 <= u8.2.2 then (match u8.2.1[u8.2.2.toNat]? with | some c3 => (match Jt c3 with | some e4 => (match (!(((e2.1 == e4.1) && ((e2.2.1 == e4.2.1) && ((e2.2.2.1 == e4.2.2.1) && ((e2.2.2.2.1 == e4.2.2.2.1) && true)))) && ((e2.2.2.2.2.1 == e4.2.2.2.2.1) && ((e2.2.2.2.2.2.1 == e4.2.2.2.2.2.1) && ((e2.2.2.2.2.2.2.1 == e4.2.2.2.2.2.2.1) && ((e2.2.2.2.2.2.2.2.1 == e4.2.2.2.2.2.2.2.1) && ((e2.2.2.2.2.2.2.2.2.1 == e4.2.2.2.2.2.2.2.2.1) && true))))))) with | true => (ke (.inl false)) | false => (kn (u8.1, u8.2.1, (i64 (u8.2.2 + 1))))) | none => none) | none => none) else none) | none => none) | none => none) else none) | false => (ke (.inr ())))
abbrev zwH (N : Nat) (x : qL × qL × Int) : Option ((Bool) ⊕ (Unit)) := (Z1 N).L N x
def zll (N : Nat) : FSpec where
 X := qL × qL
 Y := Bool
 ash := [[some 9], [some 9]]
 S := ⟨[[none]], [], [], [], []⟩
 pat := fun a b => rdA [.lst 9, .lst 9] [] a b fun ⟨a0, a1, _⟩ _ => (a0, a1)
 args := fun x => [(AV.list 9 x.1 none), (AV.list 9 x.2 none)]
 ret := fun y => ⟨(AV.v (.bool y)), [], none, [], [], [], none⟩
 t := fun x α k => (match ((x.1.length : Int) != (x.2.length : Int)) with | true => (k false) | false => (match zwH N (x.1, x.2, 0) with | some y5 => (match y5 with | .inl z6 => (k z6) | .inr z7 => (k true)) | none => none))
abbrev zid (N : Nat) (x : qL × qL) : Option (Bool) := (zll N).d x
def zgs (N : Nat) : List (Nat × LSpec) := [(8, Z1 N)]
def zrY : Code := Tryd.f74.body.getD .skip
theorem zra (N : Nat) : Par (Z1 N).b := by
 intro x α β kn ke kn' ke' r r' h h1 h2
 revert h
 dsimp only [Z1]
 (repeat' (first | (with_reducible refine ze ?_ ?_) | split)) <;> intro h <;> first | exact h1 _ h | exact h2 _ h | cases h
theorem zop (N : Nat) : jc (zn qP) (zAJ N) zbA N (zgs N) 8 zrY (Z1 N) := fun x α kn ke => by kernel_rfl
theorem zpN (N : Nat) : ZE qP zbA N (zgs N) 8 (zc 8 zrY) :=
 zD (zd qP) (zi _) zl zbA N (zgs N) 8 zrY (l := []) (by kernel_rfl) (by kernel_rfl) an (Z1 N) rfl (fun s x hc h => by dsimp only [Z1] at h; exact zI hc h (fun _ _ => rfl) rfl rfl rfl) (fun _ => rfl) (zop N) (zra N)
theorem zsK (N : Nat) : Zd (zll N).t := by
 intro x α β k k' r r' h h1
 revert h
 dsimp only [zll]
 (repeat' (first | (with_reducible refine ze ?_ ?_) | split)) <;> intro h <;> first | exact h1 _ h | cases h
theorem zrV (N : Nat) : Zf (zn qP) (zAJ N) zbA (lam N (zgs N)) Tryd.f74 (zll N) := fun x => by kernel_rfl
def zAZ (N : Nat) : Ent qP := zx (zd qP) (zi _) zl 74 Tryd.f74 Tryd.func74 rfl zbA (lam N (zgs N)) (zm (l := [(8, zc 8 zrY)]) (al (zpN N) an) (by kernel_rfl)) (zll N) (fun _ => ⟨rfl, rfl⟩) (zrV N) (fun _ _ _ h => zu h (fun _ _ => rfl) (fun _ _ => rfl)) (zsK N)
def j4 : Nat -> Keep × Keep := anL [(4, ⟨[5], [], [], [(0, 9), (1, 9)], [], [], [], [], false, none, []⟩, qK [4] [] []), (12, ⟨[5, 6], [], [], [(0, 9), (1, 9)], [], [], [], [], false, none, []⟩, ⟨[4, 5], [], [], [(0, 9), (1, 9)], [], [], [], [], false, none, []⟩)]
def zxN (N : Nat) : GamK := gam (P := qP) []
def Zv (N : Nat) : LSpec where
 X := qL × qL × Int × Int
 Y := (qL × qL × Bool × Int) ⊕ (qL × qL × Int)
 p := fun s => rdS 28 0 [(0, .lst 9), (1, .lst 9), (5, .int .i64), (6, .int .i64)] [] s fun ⟨a0, a1, a2, a3, _⟩ _ => (a0, a1, a2, a3)
 st := fun u12 => mkS 28 [(0, (AV.list 9 u12.1 none)), (1, (AV.list 9 u12.2.1 none)), (5, (qI u12.2.2.1)), (6, (qI u12.2.2.2))] [] (j4 12).1.toks 0
 out := fun y => match y with
  | .inl y => (.ret, mkS 28 [(0, (AV.list 9 y.1 none)), (1, (AV.list 9 y.2.1 none)), (4, (AV.v (.bool y.2.2.1))), (5, (qI y.2.2.2))] [] (j4 12).2.toks 0)
  | .inr y => (.exit 2, mkS 28 [(0, (AV.list 9 y.1 none)), (1, (AV.list 9 y.2.1 none)), (5, (qI y.2.2))] [] (j4 12).2.toks 0)
 b := fun u12 α kn ke => (match (decide (u12.2.2.2 < (u12.2.1.length : Int))) with | true => (if 0 <= u12.2.2.1 then (match u12.1[u12.2.2.1.toNat]? with | some c1 => (match Jt c1 with | some e2 => (if 0 <= u12.2.2.2 then (match u12.2.1[u12.2.2.2.toNat]? with | some c3 => (match Jt c3 with | some e4 => (match (((e2.1 == e4.1) && ((e2.2.1 == e4.2.1) && ((e2.2.2.1 == e4.2.2.1) && ((e2.2.2.2.1 == e4.2.2.2.1) && true)))) && ((e2.2.2.2.2.1 == e4.2.2.2.2.1) && ((e2.2.2.2.2.2.1 == e4.2.2.2.2.2.1) && ((e2.2.2.2.2.2.2.1 == e4.2.2.2.2.2.2.1) && ((e2.2.2.2.2.2.2.2.1 == e4.2.2.2.2.2.2.2.1) && ((e2.2.2.2.2.2.2.2.2.1 == e4.2.2.2.2.2.2.2.2.1) && true)))))) with | true => (ke (.inl (u12.1, u12.2.1, true, u12.2.2.1))) | false => (kn (u12.1, u12.2.1, u12.2.2.1, (i64 (u12.2.2.2 + 1))))) | none => none) | none => none) else none) | none => none) | none => none) else none) | false => (ke (.inr (u12.1, u12.2.1, u12.2.2.1))))
abbrev zin (N : Nat) (x : qL × qL × Int × Int) : Option ((qL × qL × Bool × Int) ⊕ (qL × qL × Int)) := (Zv N).L N x
def ZZ (N : Nat) : LSpec where
 X := qL × qL × Int
 Y := (Bool) ⊕ (Unit)
 p := fun s => rdS 28 0 [(0, .lst 9), (1, .lst 9), (5, .int .i64)] [] s fun ⟨a0, a1, a2, _⟩ _ => (a0, a1, a2)
 st := fun u4 => mkS 28 [(0, (AV.list 9 u4.1 none)), (1, (AV.list 9 u4.2.1 none)), (5, (qI u4.2.2))] [] (j4 4).1.toks 0
 out := fun y => match y with
  | .inl y => (.ret, mkS 28 [(4, (AV.v (.bool y)))] [] (j4 4).2.toks 0)
  | .inr y => (.exit 0, mkS 28 [] [] (j4 4).2.toks 0)
 b := fun u4 α kn ke => (match (decide (u4.2.2 < (u4.1.length : Int))) with | true => (match zin N (u4.1, u4.2.1, u4.2.2, 0) with | some y5 => (match y5 with | .inl z6 => (ke (.inl z6.2.2.1)) | .inr z7 => (kn (z7.1, z7.2.1, (i64 (z7.2.2 + 1))))) | none => none) | false => (ke (.inr ())))
abbrev zvW (N : Nat) (x : qL × qL × Int) : Option ((Bool) ⊕ (Unit)) := (ZZ N).L N x
def zkE (N : Nat) : FSpec where
 X := qL × qL
 Y := Bool
 ash := [[some 9], [some 9]]
 S := ⟨[[none]], [], [], [], []⟩
 pat := fun a b => rdA [.lst 9, .lst 9] [] a b fun ⟨a0, a1, _⟩ _ => (a0, a1)
 args := fun x => [(AV.list 9 x.1 none), (AV.list 9 x.2 none)]
 ret := fun y => ⟨(AV.v (.bool y)), [], none, [], [], [], none⟩
 t := fun x α k => (match zvW N (x.1, x.2, 0) with | some y8 => (match y8 with | .inl z9 => (k z9) | .inr z10 => (k false)) | none => none)
abbrev zxR (N : Nat) (x : qL × qL) : Option (Bool) := (zkE N).d x
def zbB (N : Nat) : List (Nat × LSpec) := [(4, ZZ N), (12, Zv N)]
def zfv : Code := Tryd.f82.body.getD .skip
theorem zlY (N : Nat) : Par (Zv N).b := by
 intro x α β kn ke kn' ke' r r' h h1 h2
 revert h
 dsimp only [Zv]
 (repeat' (first | (with_reducible refine ze ?_ ?_) | split)) <;> intro h <;> first | exact h1 _ h | exact h2 _ h | cases h
theorem zkJ (N : Nat) : jc (zn qP) (zxN N) j4 N (zbB N) 12 zfv (Zv N) := fun x α kn ke => by kernel_rfl
theorem zek (N : Nat) : ZE qP j4 N (zbB N) 12 (zc 12 zfv) :=
 zD (zd qP) (zi _) zl j4 N (zbB N) 12 zfv (l := []) (by kernel_rfl) (by kernel_rfl) an (Zv N) rfl (fun s x hc h => by dsimp only [Zv] at h; exact zI hc h (fun _ _ => rfl) rfl rfl rfl) (fun _ => rfl) (zkJ N) (zlY N)
theorem zt6 (N : Nat) : Par (ZZ N).b := by
 intro x α β kn ke kn' ke' r r' h h1 h2
 revert h
 dsimp only [ZZ]
 (repeat' (first | (with_reducible refine ze ?_ ?_) | split)) <;> intro h <;> first | exact h1 _ h | exact h2 _ h | cases h
theorem zlU (N : Nat) : jc (zn qP) (zxN N) j4 N (zbB N) 4 zfv (ZZ N) := fun x α kn ke => by kernel_rfl
theorem zl3 (N : Nat) : ZE qP j4 N (zbB N) 4 (zc 4 zfv) :=
 zD (zd qP) (zi _) zl j4 N (zbB N) 4 zfv (l := [(12, zc 12 zfv)]) (by kernel_rfl) (by kernel_rfl) (al (zek N) an) (ZZ N) rfl (fun s x hc h => by dsimp only [ZZ] at h; exact zI hc h (fun _ _ => rfl) rfl rfl rfl) (fun _ => rfl) (zlU N) (zt6 N)
theorem zsb (N : Nat) : Zd (zkE N).t := by
 intro x α β k k' r r' h h1
 revert h
 dsimp only [zkE]
 (repeat' (first | (with_reducible refine ze ?_ ?_) | split)) <;> intro h <;> first | exact h1 _ h | cases h
theorem zqv (N : Nat) : Zf (zn qP) (zxN N) j4 (lam N (zbB N)) Tryd.f82 (zkE N) := fun x => by kernel_rfl
def zDx (N : Nat) : Ent qP := zx (zd qP) (zi _) zl 82 Tryd.f82 Tryd.func82 rfl j4 (lam N (zbB N)) (zm (l := [(4, zc 4 zfv), (12, zc 12 zfv)]) (al (zl3 N) (al (zek N) an)) (by kernel_rfl)) (zkE N) (fun _ => ⟨rfl, rfl⟩) (zqv N) (fun _ _ _ h => zu h (fun _ _ => rfl) (fun _ _ => rfl)) (zsb N)
def jZ : Nat -> Keep × Keep := anL [(4, ⟨[3], [], [], [(0, 25)], [], [], [], [], false, none, []⟩, qK [2] [] []), (17, ⟨[3, 5], [], [], [(0, 25), (4, 9)], [], [], [], [], false, none, []⟩, ⟨[2, 3], [], [], [(0, 25)], [], [], [], [], false, none, []⟩)]
def zyg (N : Nat) : GamK := gam (P := qP) [zDN N, zCM N, zAZ N, zzl N, zDx N]
def ZN (N : Nat) : LSpec where
 X := qL × qL × Int × Int
 Y := (qL × Bool × Int) ⊕ (qL × Int)
 p := fun s => rdS 70 0 [(0, .lst 25), (4, .lst 9), (3, .int .i64), (5, .int .i64)] [] s fun ⟨a0, a1, a2, a3, _⟩ _ => (a0, a1, a2, a3)
 st := fun u17 => mkS 70 [(0, (AV.list 25 u17.1 none)), (4, (AV.list 9 u17.2.1 none)), (3, (qI u17.2.2.1)), (5, (qI u17.2.2.2))] [] (jZ 17).1.toks 0
 out := fun y => match y with
  | .inl y => (.ret, mkS 70 [(0, (AV.list 25 y.1 none)), (2, (AV.v (.bool y.2.1))), (3, (qI y.2.2))] [] (jZ 17).2.toks 0)
  | .inr y => (.exit 2, mkS 70 [(0, (AV.list 25 y.1 none)), (3, (qI y.2))] [] (jZ 17).2.toks 0)
 b := fun u17 α kn ke => (match (decide (u17.2.2.2 < u17.2.2.1)) with | true => (if 0 <= u17.2.2.2 then (match u17.1[u17.2.2.2.toNat]? with | some c14 => (match ((c14.drop 9).drop 0)[0]? with | some x15 => (match ju 9 x15 with | some l16 => (match zxR N (u17.2.1, l16) with | some y17 => (match y17 with | true => (ke (.inl (u17.1, false, u17.2.2.1))) | false => (kn (u17.1, u17.2.1, u17.2.2.1, (i64 (u17.2.2.2 + 1))))) | none => none) | none => none) | none => none) | none => none) else none) | false => (ke (.inr (u17.1, u17.2.2.1))))
abbrev zfM (N : Nat) (x : qL × qL × Int × Int) : Option ((qL × Bool × Int) ⊕ (qL × Int)) := (ZN N).L N x
def jH (N : Nat) : LSpec where
 X := qL × Int
 Y := (Bool) ⊕ (Unit)
 p := fun s => rdS 70 0 [(0, .lst 25), (3, .int .i64)] [] s fun ⟨a0, a1, _⟩ _ => (a0, a1)
 st := fun u4 => mkS 70 [(0, (AV.list 25 u4.1 none)), (3, (qI u4.2))] [] (jZ 4).1.toks 0
 out := fun y => match y with
  | .inl y => (.ret, mkS 70 [(2, (AV.v (.bool y)))] [] (jZ 4).2.toks 0)
  | .inr y => (.exit 0, mkS 70 [] [] (jZ 4).2.toks 0)
 b := fun u4 α kn ke => (match (decide (u4.2 < (u4.1.length : Int))) with | true => (if 0 <= u4.2 then (match u4.1[u4.2.toNat]? with | some c1 => (match ((c1.drop 9).drop 0)[0]? with | some x2 => (match ju 9 x2 with | some l3 => (match ((l3.length : Int) == 0) with | true => (ke (.inl false)) | false => (if 0 <= u4.2 then (match u4.1[u4.2.toNat]? with | some c4 => (match Jt (c4.drop 0) with | some e5 => (match zzW N l3 with | some y6 => (match (!(((e5.1 == y6.1) && ((e5.2.1 == y6.2.1) && ((e5.2.2.1 == y6.2.2.1) && ((e5.2.2.2.1 == y6.2.2.2.1) && true)))) && ((e5.2.2.2.2.1 == y6.2.2.2.2.1) && ((e5.2.2.2.2.2.1 == y6.2.2.2.2.2.1) && ((e5.2.2.2.2.2.2.1 == y6.2.2.2.2.2.2.1) && ((e5.2.2.2.2.2.2.2.1 == y6.2.2.2.2.2.2.2.1) && ((e5.2.2.2.2.2.2.2.2.1 == y6.2.2.2.2.2.2.2.2.1) && true))))))) with | true => (ke (.inl false)) | false => (match zBE N l3 with | some y7 => (match zid N (l3, y7) with | some y8 => (match (!y8) with | true => (ke (.inl false)) | false => (match (decide (u4.2 > 0)) with | true => (if 0 <= (i64 (u4.2 - 1)) then (match u4.1[(i64 (u4.2 - 1)).toNat]? with | some c9 => (match Jt (c9.drop 0) with | some e10 => (if 0 <= u4.2 then (match u4.1[u4.2.toNat]? with | some c11 => (match Jt (c11.drop 0) with | some e12 => (match zyI N (e10, e12) with | some y13 => (match (decide (y13 >= 0)) with | true => (ke (.inl false)) | false => (match zfM N (u4.1, l3, u4.2, 0) with | some y18 => (match y18 with | .inl z19 => (ke (.inl z19.2.1)) | .inr z20 => (kn (z20.1, (i64 (z20.2 + 1))))) | none => none)) | none => none) | none => none) | none => none) else none) | none => none) | none => none) else none) | false => (match zfM N (u4.1, l3, u4.2, 0) with | some y21 => (match y21 with | .inl z22 => (ke (.inl z22.2.1)) | .inr z23 => (kn (z23.1, (i64 (z23.2 + 1))))) | none => none))) | none => none) | none => none)) | none => none) | none => none) | none => none) else none)) | none => none) | none => none) | none => none) else none) | false => (ke (.inr ())))
abbrev zwB (N : Nat) (x : qL × Int) : Option ((Bool) ⊕ (Unit)) := (jH N).L N x
def zkg (N : Nat) : FSpec where
 X := qL
 Y := Bool
 ash := [[some 25]]
 S := ⟨[[none]], [], [], [], []⟩
 pat := fun a b => rdA [.lst 25] [] a b fun ⟨a0, _⟩ _ => a0
 args := fun x => [(AV.list 25 x none)]
 ret := fun y => ⟨(AV.v (.bool y)), [], none, [], [], [], none⟩
 t := fun x α k => (match zwB N (x, 0) with | some y24 => (match y24 with | .inl z25 => (k z25) | .inr z26 => (k true)) | none => none)
abbrev zfL (N : Nat) (x : qL) : Option (Bool) := (zkg N).d x
def zb7 (N : Nat) : List (Nat × LSpec) := [(4, jH N), (17, ZN N)]
def zfG : Code := Tryd.f56.body.getD .skip
theorem zpb (N : Nat) : Par (ZN N).b := by
 intro x α β kn ke kn' ke' r r' h h1 h2
 revert h
 dsimp only [ZN]
 (repeat' (first | (with_reducible refine ze ?_ ?_) | split)) <;> intro h <;> first | exact h1 _ h | exact h2 _ h | cases h
theorem zkA (N : Nat) : jc (zn qP) (zyg N) jZ N (zb7 N) 17 zfG (ZN N) := fun x α kn ke => by kernel_rfl
theorem zeP (N : Nat) : ZE qP jZ N (zb7 N) 17 (zc 17 zfG) :=
 zD (zd qP) (zi _) zl jZ N (zb7 N) 17 zfG (l := []) (by kernel_rfl) (by kernel_rfl) an (ZN N) rfl (fun s x hc h => by dsimp only [ZN] at h; exact zI hc h (fun _ _ => rfl) rfl rfl rfl) (fun _ => rfl) (zkA N) (zpb N)
theorem zuh (N : Nat) : Par (jH N).b := by
 intro x α β kn ke kn' ke' r r' h h1 h2
 revert h
 dsimp only [jH]
 (repeat' (first | (with_reducible refine ze ?_ ?_) | split)) <;> intro h <;> first | exact h1 _ h | exact h2 _ h | cases h
theorem znv (N : Nat) : jc (zn qP) (zyg N) jZ N (zb7 N) 4 zfG (jH N) := fun x α kn ke => by kernel_rfl
theorem zmv (N : Nat) : ZE qP jZ N (zb7 N) 4 (zc 4 zfG) :=
 zD (zd qP) (zi _) zl jZ N (zb7 N) 4 zfG (l := [(17, zc 17 zfG)]) (by kernel_rfl) (by kernel_rfl) (al (zeP N) an) (jH N) rfl (fun s x hc h => by dsimp only [jH] at h; exact zI hc h (fun _ _ => rfl) rfl rfl rfl) (fun _ => rfl) (znv N) (zuh N)
theorem zr0 (N : Nat) : Zd (zkg N).t := by
 intro x α β k k' r r' h h1
 revert h
 dsimp only [zkg]
 (repeat' (first | (with_reducible refine ze ?_ ?_) | split)) <;> intro h <;> first | exact h1 _ h | cases h
theorem zqV (N : Nat) : Zf (zn qP) (zyg N) jZ (lam N (zb7 N)) Tryd.f56 (zkg N) := fun x => by kernel_rfl
def zyR (N : Nat) : Ent qP := zx (zd qP) (zi _) zl 56 Tryd.f56 Tryd.func56 rfl jZ (lam N (zb7 N)) (zm (l := [(4, zc 4 zfG), (17, zc 17 zfG)]) (al (zmv N) (al (zeP N) an)) (by kernel_rfl)) (zkg N) (fun _ => ⟨rfl, rfl⟩) (zqV N) (fun _ _ _ h => zu h (fun _ _ => rfl) (fun _ _ => rfl)) (zr0 N)
abbrev RK6 : List Ck := [.sl 29]
abbrev RT6 : Type := qL × Unit
def zf1 (c : List AV) : Option RT6 := dec RK6 c
abbrev RK7 : List Ck := [.int .i64, .int .i64, .str, .int .i64, .str, .str, .str, .str, .int .i64, .int .i64, .int .i64, .int .i64, .int .i64, .sl 9, .int .i64, .int .i64, .int .i64, .int .i64, .int .i64, .int .i64, .int .i64, .int .i64, .int .i64, .int .i64, .int .i64, .int .i64, .int .i64, .int .i64, .int .i64]
abbrev RT7 : Type := Int × Int × ByteArray × Int × ByteArray × ByteArray × ByteArray × ByteArray × Int × Int × Int × Int × Int × qL × Int × Int × Int × Int × Int × Int × Int × Int × Int × Int × Int × Int × Int × Int × Int × Unit
def zk9 (c : List AV) : Option RT7 := dec RK7 c
def zM (e : RT7) : List AV := enc RK7 e
theorem zxY (e : RT7) : zk9 (zM e) = some e := zfc (ks := RK7) e rfl
@[reducible] def zy (e : RT7) : RT0 := (e.2.2.2.2)
def zvg : Nat -> Keep × Keep := anL []
def zCD (N : Nat) : GamK := gam (P := qP) []
def zjC (N : Nat) : FSpec where
 X := RT7
 Y := Bool
 ash := [[none, none, none, none, none, none, none, none, none, none, none, none, none, some 9, none, none, none, none, none, none, none, none, none, none, none, none, none, none, none]]
 S := ⟨[[none]], [], [], [], []⟩
 pat := fun a b => rdA [.agg RK7] [] a b fun ⟨a0, _⟩ _ => a0
 args := fun x => [(AV.agg (zM x))]
 ret := fun y => ⟨(AV.v (.bool y)), [], none, [], [], [], none⟩
 t := fun x α k => (match (x.1 == 1) with | true => (k true) | false => (match (x.1 == 2) with | true => (k true) | false => (k (x.1 == 6))))
abbrev zh2 (N : Nat) (x : RT7) : Option (Bool) := (zjC N).d x
theorem zti (N : Nat) : Zd (zjC N).t := by
 intro x α β k k' r r' h h1
 revert h
 dsimp only [zjC]
 (repeat' (first | (with_reducible refine ze ?_ ?_) | split)) <;> intro h <;> first | exact h1 _ h | cases h
theorem zte (N : Nat) : Zf (zn qP) (zCD N) zvg (lam N []) Tryd.f15 (zjC N) := fun x => by kernel_rfl
def zxd (N : Nat) : Ent qP := zx (zd qP) (zi _) zl 15 Tryd.f15 Tryd.func15 rfl zvg (lam N []) (zm (l := []) an (by kernel_rfl)) (zjC N) (fun _ => ⟨rfl, rfl⟩) (zte N) (fun _ _ _ h => zu h (fun _ _ => rfl) (fun _ _ => rfl)) (zti N)
def zvc : Nat -> Keep × Keep := anL []
def zB9 (N : Nat) : GamK := gam (P := qP) [zxd N]
def zj5 (N : Nat) : FSpec where
 X := RT7 × RT7
 Y := Bool
 ash := [[none, none, none, none, none, none, none, none, none, none, none, none, none, some 9, none, none, none, none, none, none, none, none, none, none, none, none, none, none, none], [none, none, none, none, none, none, none, none, none, none, none, none, none, some 9, none, none, none, none, none, none, none, none, none, none, none, none, none, none, none]]
 S := ⟨[[none]], [], [], [], []⟩
 pat := fun a b => rdA [.agg RK7, .agg RK7] [] a b fun ⟨a0, a1, _⟩ _ => (a0, a1)
 args := fun x => [(AV.agg (zM x.1)), (AV.agg (zM x.2))]
 ret := fun y => ⟨(AV.v (.bool y)), [], none, [], [], [], none⟩
 t := fun x α k => (match (x.1.1 == 1) with | true => (match zh2 N x.2 with | some y1 => (k y1) | none => none) | false => (match (x.1.1 == 2) with | true => (match (x.2.1 == 1) with | true => (k true) | false => (k (x.2.1 == 6))) | false => (match (x.1.1 == 6) with | true => (match zh2 N x.2 with | some y2 => (k (!y2)) | none => none) | false => (k true))))
abbrev zlo (N : Nat) (x : RT7 × RT7) : Option (Bool) := (zj5 N).d x
theorem zrh (N : Nat) : Zd (zj5 N).t := by
 intro x α β k k' r r' h h1
 revert h
 dsimp only [zj5]
 (repeat' (first | (with_reducible refine ze ?_ ?_) | split)) <;> intro h <;> first | exact h1 _ h | cases h
theorem ztD (N : Nat) : Zf (zn qP) (zB9 N) zvc (lam N []) Tryd.f96 (zj5 N) := fun x => by kernel_rfl
def zC8 (N : Nat) : Ent qP := zx (zd qP) (zi _) zl 96 Tryd.f96 Tryd.func96 rfl zvc (lam N []) (zm (l := []) an (by kernel_rfl)) (zj5 N) (fun _ => ⟨rfl, rfl⟩) (ztD N) (fun _ _ _ h => zu h (fun _ _ => rfl) (fun _ _ => rfl)) (zrh N)
def zwd : Nat -> Keep × Keep := anL []
def zDK (N : Nat) : GamK := gam (P := qP) []
def zkh (N : Nat) : FSpec where
 X := Int
 Y := Bool
 ash := [[none]]
 S := ⟨[[none]], [], [], [], []⟩
 pat := fun a b => rdA [.int .i64] [] a b fun ⟨a0, _⟩ _ => a0
 args := fun x => [(AV.v (.int .i64 x))]
 ret := fun y => ⟨(AV.v (.bool y)), [], none, [], [], [], none⟩
 t := fun x α k => (match (x != 1) with | true => (k (x != 3)) | false => (k false))
abbrev zii (N : Nat) (x : Int) : Option (Bool) := (zkh N).d x
theorem zqE (N : Nat) : Zd (zkh N).t := by
 intro x α β k k' r r' h h1
 revert h
 dsimp only [zkh]
 (repeat' (first | (with_reducible refine ze ?_ ?_) | split)) <;> intro h <;> first | exact h1 _ h | cases h
theorem zuW (N : Nat) : Zf (zn qP) (zDK N) zwd (lam N []) Tryd.f77 (zkh N) := fun x => by kernel_rfl
def zAS (N : Nat) : Ent qP := zx (zd qP) (zi _) zl 77 Tryd.f77 Tryd.func77 rfl zwd (lam N []) (zm (l := []) an (by kernel_rfl)) (zkh N) (fun _ => ⟨rfl, rfl⟩) (zuW N) (fun _ _ _ h => zu h (fun _ _ => rfl) (fun _ _ => rfl)) (zqE N)
def zvx : Nat -> Keep × Keep := anL []
def zCg (N : Nat) : GamK := gam (P := qP) [zAZ N]
def zjW (N : Nat) : FSpec where
 X := RT3 × RT3
 Y := Bool
 ash := [[some 9, none, none, none, none, none, none, none, none, none, none, none, none, none, none, none], [some 9, none, none, none, none, none, none, none, none, none, none, none, none, none, none, none]]
 S := ⟨[[none]], [], [], [], []⟩
 pat := fun a b => rdA [.agg RK3, .agg RK3] [] a b fun ⟨a0, a1, _⟩ _ => (a0, a1)
 args := fun x => [(AV.agg (zB0 x.1)), (AV.agg (zB0 x.2))]
 ret := fun y => ⟨(AV.v (.bool y)), [], none, [], [], [], none⟩
 t := fun x α k => (match zid N (x.1.1, x.2.1) with | some y1 => (match y1 with | true => (match (((x.1.2.1 == x.2.2.1) && ((x.1.2.2.1 == x.2.2.2.1) && ((x.1.2.2.2.1 == x.2.2.2.2.1) && true))) && ((x.1.2.2.2.2.1 == x.2.2.2.2.2.1) && ((x.1.2.2.2.2.2.1 == x.2.2.2.2.2.2.1) && ((x.1.2.2.2.2.2.2.1 == x.2.2.2.2.2.2.2.1) && ((((x.1.2.2.2.2.2.2.2.1 == x.2.2.2.2.2.2.2.2.1) && ((x.1.2.2.2.2.2.2.2.2.1 == x.2.2.2.2.2.2.2.2.2.1) && ((x.1.2.2.2.2.2.2.2.2.2.1 == x.2.2.2.2.2.2.2.2.2.2.1) && true))) && (((x.1.2.2.2.2.2.2.2.2.2.2.1 == x.2.2.2.2.2.2.2.2.2.2.2.1) && ((x.1.2.2.2.2.2.2.2.2.2.2.2.1 == x.2.2.2.2.2.2.2.2.2.2.2.2.1) && ((x.1.2.2.2.2.2.2.2.2.2.2.2.2.1 == x.2.2.2.2.2.2.2.2.2.2.2.2.2.1) && true))) && true)) && true))))) with | true => (match ((x.1.2.2.2.2.2.2.2.2.2.2.2.2.2.1 == x.2.2.2.2.2.2.2.2.2.2.2.2.2.2.1) && ((x.1.2.2.2.2.2.2.2.2.2.2.2.2.2.2.1 == x.2.2.2.2.2.2.2.2.2.2.2.2.2.2.2.1) && true)) with | true => (k (x.1.2.2.2.2.2.2.2.2.2.2.2.2.2.2.2.1 == x.2.2.2.2.2.2.2.2.2.2.2.2.2.2.2.2.1)) | false => (k false)) | false => (k false)) | false => (k false)) | none => none)
abbrev zxE (N : Nat) (x : RT3 × RT3) : Option (Bool) := (zjW N).d x
theorem zva (N : Nat) : Zd (zjW N).t := by
 intro x α β k k' r r' h h1
 revert h
 dsimp only [zjW]
 (repeat' (first | (with_reducible refine ze ?_ ?_) | split)) <;> intro h <;> first | exact h1 _ h | cases h
theorem zuD (N : Nat) : Zf (zn qP) (zCg N) zvx (lam N []) Tryd.f49 (zjW N) := fun x => by kernel_rfl
def zDA (N : Nat) : Ent qP := zx (zd qP) (zi _) zl 49 Tryd.f49 Tryd.func49 rfl zvx (lam N []) (zm (l := []) an (by kernel_rfl)) (zjW N) (fun _ => ⟨rfl, rfl⟩) (zuD N) (fun _ _ _ h => zu h (fun _ _ => rfl) (fun _ _ => rfl)) (zva N)
def zwl : Nat -> Keep × Keep := anL []
def zDm (N : Nat) : GamK := gam (P := qP) [zDA N]
def zkr (N : Nat) : FSpec where
 X := RT0 × RT0
 Y := Bool
 ash := [[none, none, none, none, none, none, none, none, none, some 9, none, none, none, none, none, none, none, none, none, none, none, none, none, none, none], [none, none, none, none, none, none, none, none, none, some 9, none, none, none, none, none, none, none, none, none, none, none, none, none, none, none]]
 S := ⟨[[none]], [], [], [], []⟩
 pat := fun a b => rdA [.agg RK0, .agg RK0] [] a b fun ⟨a0, a1, _⟩ _ => (a0, a1)
 args := fun x => [(AV.agg (zB x.1)), (AV.agg (zB x.2))]
 ret := fun y => ⟨(AV.v (.bool y)), [], none, [], [], [], none⟩
 t := fun x α k => (match (((x.1.1 == x.2.1) && ((x.1.2.1 == x.2.2.1) && ((x.1.2.2.1 == x.2.2.2.1) && ((x.1.2.2.2.1 == x.2.2.2.2.1) && true)))) && ((x.1.2.2.2.2.1 == x.2.2.2.2.2.1) && ((x.1.2.2.2.2.2.1 == x.2.2.2.2.2.2.1) && ((x.1.2.2.2.2.2.2.1 == x.2.2.2.2.2.2.2.1) && ((x.1.2.2.2.2.2.2.2.1 == x.2.2.2.2.2.2.2.2.1) && ((x.1.2.2.2.2.2.2.2.2.1 == x.2.2.2.2.2.2.2.2.2.1) && true)))))) with | true => (match zxE N ((zH x.1), (zH x.2)) with | some y1 => (k y1) | none => none) | false => (k false))
abbrev zcM (N : Nat) (x : RT0 × RT0) : Option (Bool) := (zkr N).d x
theorem zrG (N : Nat) : Zd (zkr N).t := by
 intro x α β k k' r r' h h1
 revert h
 dsimp only [zkr]
 (repeat' (first | (with_reducible refine ze ?_ ?_) | split)) <;> intro h <;> first | exact h1 _ h | cases h
theorem zrW (N : Nat) : Zf (zn qP) (zDm N) zwl (lam N []) Tryd.f40 (zkr N) := fun x => by kernel_rfl
def zyS (N : Nat) : Ent qP := zx (zd qP) (zi _) zl 40 Tryd.f40 Tryd.func40 rfl zwl (lam N []) (zm (l := []) an (by kernel_rfl)) (zkr N) (fun _ => ⟨rfl, rfl⟩) (zrW N) (fun _ _ _ h => zu h (fun _ _ => rfl) (fun _ _ => rfl)) (zrG N)
def zbx : Nat -> Keep × Keep := anL [(4, qK [0, 3] [] [], qK [0, 2] [] [])]
def zAi (N : Nat) : GamK := gam (P := qP) []
def zdH (N : Nat) : LSpec where
 X := ByteArray × Int
 Y := (ByteArray × Bool) ⊕ (ByteArray)
 p := fun s => rdS 28 0 [(0, .str), (3, .int .i64)] [] s fun ⟨a0, a1, _⟩ _ => (a0, a1)
 st := fun u4 => mkS 28 [(0, (AV.v (.string u4.1))), (3, (qI u4.2))] [] (zbx 4).1.toks 0
 out := fun y => match y with
  | .inl y => (.ret, mkS 28 [(0, (AV.v (.string y.1))), (2, (AV.v (.bool y.2)))] [] (zbx 4).2.toks 0)
  | .inr y => (.exit 0, mkS 28 [(0, (AV.v (.string y)))] [] (zbx 4).2.toks 0)
 b := fun u4 α kn ke => (match (decide (u4.2 < (u4.1.size : Int))) with | true => (if 0 <= u4.2 then (match u4.1[u4.2.toNat]? with | some c1 => (match (decide ((c1.toNat : Int) < 97)) with | true => (ke (.inl (u4.1, false))) | false => (if 0 <= u4.2 then (match u4.1[u4.2.toNat]? with | some c2 => (match (decide ((c2.toNat : Int) > 122)) with | true => (ke (.inl (u4.1, false))) | false => (kn (u4.1, (i64 (u4.2 + 1))))) | none => none) else none)) | none => none) else none) | false => (ke (.inr u4.1)))
abbrev zAd (N : Nat) (x : ByteArray × Int) : Option ((ByteArray × Bool) ⊕ (ByteArray)) := (zdH N).L N x
def zov (N : Nat) : FSpec where
 X := ByteArray
 Y := Bool
 ash := [[none]]
 S := ⟨[[none]], [], [], [], []⟩
 pat := fun a b => rdA [.str] [] a b fun ⟨a0, _⟩ _ => a0
 args := fun x => [(AV.v (.string x))]
 ret := fun y => ⟨(AV.v (.bool y)), [], none, [], [], [], none⟩
 t := fun x α k => (match zAd N (x, 0) with | some y3 => (match y3 with | .inl z4 => (k z4.2) | .inr z5 => (match (decide ((z5.size : Int) >= 1)) with | true => (k (decide ((z5.size : Int) <= 16))) | false => (k false))) | none => none)
abbrev ztS (N : Nat) (x : ByteArray) : Option (Bool) := (zov N).d x
def zhc (N : Nat) : List (Nat × LSpec) := [(4, zdH N)]
def zqn : Code := Tryd.f76.body.getD .skip
theorem zux (N : Nat) : Par (zdH N).b := by
 intro x α β kn ke kn' ke' r r' h h1 h2
 revert h
 dsimp only [zdH]
 (repeat' (first | (with_reducible refine ze ?_ ?_) | split)) <;> intro h <;> first | exact h1 _ h | exact h2 _ h | cases h
theorem zl8 (N : Nat) : jc (zn qP) (zAi N) zbx N (zhc N) 4 zqn (zdH N) := fun x α kn ke => by kernel_rfl
theorem znJ (N : Nat) : ZE qP zbx N (zhc N) 4 (zc 4 zqn) :=
 zD (zd qP) (zi _) zl zbx N (zhc N) 4 zqn (l := []) (by kernel_rfl) (by kernel_rfl) an (zdH N) rfl (fun s x hc h => by dsimp only [zdH] at h; exact zI hc h (fun _ _ => rfl) rfl rfl rfl) (fun _ => rfl) (zl8 N) (zux N)
theorem zrx (N : Nat) : Zd (zov N).t := by
 intro x α β k k' r r' h h1
 revert h
 dsimp only [zov]
 (repeat' (first | (with_reducible refine ze ?_ ?_) | split)) <;> intro h <;> first | exact h1 _ h | cases h
theorem zuJ (N : Nat) : Zf (zn qP) (zAi N) zbx (lam N (zhc N)) Tryd.f76 (zov N) := fun x => by kernel_rfl
def zBg (N : Nat) : Ent qP := zx (zd qP) (zi _) zl 76 Tryd.f76 Tryd.func76 rfl zbx (lam N (zhc N)) (zm (l := [(4, zc 4 zqn)]) (al (znJ N) an) (by kernel_rfl)) (zov N) (fun _ => ⟨rfl, rfl⟩) (zuJ N) (fun _ _ _ h => zu h (fun _ _ => rfl) (fun _ _ => rfl)) (zrx N)
def j3 : Nat -> Keep × Keep := anL [(4, qK [1, 2, 3, 7] [] [3], qK [3, 6] [] [3]), (16, ⟨[1, 2, 3, 7, 8], [], [3, 8], [], [], [], [], [], true, none, []⟩, qK [1, 2, 3, 6, 7, 8] [] [3, 8])]
def zw7 (N : Nat) : GamK := gam (P := qP) [zyR N, zBg N, zC8 N, zAS N, zyS N]
def Jf (N : Nat) : LSpec where
 X := Int × Int × Int × qL × RT7
 Y := (Int × Int × Bool × Int × qL × RT7) ⊕ (Int × Int × Int × qL × RT7)
 p := fun s => rdS 147 0 [(1, .int .i64), (2, .int .i64), (3, .ptr 3 0), (7, .int .i64), (8, .ptr 8 0)] [(3, .cells [.lst 29]), (8, .row RK7)] s fun ⟨a0, a1, _, a2, _, _⟩ ⟨⟨a3, _⟩, a4, _⟩ => (a0, a1, a2, a3, a4)
 st := fun u16 => mkS 147 [(1, (qI u16.1)), (2, (qI u16.2.1)), (3, (AV.ptr 3 0)), (7, (qI u16.2.2.1)), (8, (AV.ptr 8 0))] [(3, [(AV.list 29 u16.2.2.2.1 none)]), (8, (zM u16.2.2.2.2))] (j3 16).1.toks 0
 out := fun y => match y with
  | .inl y => (.ret, mkS 147 [(1, (qI y.1)), (2, (qI y.2.1)), (3, (AV.ptr 3 0)), (6, (AV.v (.bool y.2.2.1))), (7, (qI y.2.2.2.1)), (8, (AV.ptr 8 0))] [(3, [(AV.list 29 y.2.2.2.2.1 none)]), (8, (zM y.2.2.2.2.2))] (j3 16).2.toks 0)
  | .inr y => (.normal, mkS 147 [(1, (qI y.1)), (2, (qI y.2.1)), (3, (AV.ptr 3 0)), (7, (qI y.2.2.1)), (8, (AV.ptr 8 0))] [(3, [(AV.list 29 y.2.2.2.1 none)]), (8, (zM y.2.2.2.2))] (j3 16).2.toks 0)
 b := fun u16 α kn ke => (match (u16.2.2.2.2.1 == 1) with | true => (match (!(u16.2.2.2.2.2.2.1.toList == (⟨#[]⟩ : ByteArray).toList)) with | true => (ke (.inl (u16.1, u16.2.1, false, u16.2.2))) | false => (ke (.inr u16))) | false => (match (u16.2.2.2.2.1 == 2) with | true => (match (!(u16.2.2.2.2.2.2.1.toList == (⟨#[]⟩ : ByteArray).toList)) with | true => (ke (.inl (u16.1, u16.2.1, false, u16.2.2))) | false => (match (!(u16.2.2.2.2.1 == 2)) with | true => (match ztS N u16.2.2.2.2.2.2.1 with | some y8 => (match (!y8) with | true => (ke (.inl (u16.1, u16.2.1, false, u16.2.2))) | false => (ke (.inr u16))) | none => none) | false => (ke (.inr u16)))) | false => (match (!(u16.2.2.2.2.1 == 2)) with | true => (match ztS N u16.2.2.2.2.2.2.1 with | some y9 => (match (!y9) with | true => (ke (.inl (u16.1, u16.2.1, false, u16.2.2))) | false => (ke (.inr u16))) | none => none) | false => (ke (.inr u16)))))
abbrev zpo (N : Nat) (x : Int × Int × Int × qL × RT7) : Option ((Int × Int × Bool × Int × qL × RT7) ⊕ (Int × Int × Int × qL × RT7)) := (Jf N).L N x
def jA (N : Nat) : LSpec where
 X := Int × Int × Int × qL
 Y := (Bool × qL) ⊕ (qL)
 p := fun s => rdS 147 0 [(1, .int .i64), (2, .int .i64), (3, .ptr 3 0), (7, .int .i64)] [(3, .cells [.lst 29])] s fun ⟨a0, a1, _, a2, _⟩ ⟨⟨a3, _⟩, _⟩ => (a0, a1, a2, a3)
 st := fun u4 => mkS 147 [(1, (qI u4.1)), (2, (qI u4.2.1)), (3, (AV.ptr 3 0)), (7, (qI u4.2.2.1))] [(3, [(AV.list 29 u4.2.2.2 none)])] (j3 4).1.toks 0
 out := fun y => match y with
  | .inl y => (.ret, mkS 147 [(3, (AV.ptr 3 0)), (6, (AV.v (.bool y.1)))] [(3, [(AV.list 29 y.2 none)])] (j3 4).2.toks 0)
  | .inr y => (.exit 0, mkS 147 [(3, (AV.ptr 3 0))] [(3, [(AV.list 29 y none)])] (j3 4).2.toks 0)
 b := fun u4 α kn ke => (match (decide (u4.2.2.1 < (u4.2.2.2.length : Int))) with | true => (if 0 <= u4.2.2.1 then (match u4.2.2.2[u4.2.2.1.toNat]? with | some c33 => (match zk9 c33 with | some e34 => (match (decide (e34.1 < 1)) with | true => (ke (.inl (false, u4.2.2.2))) | false => (match (decide (e34.1 > 6)) with | true => (ke (.inl (false, u4.2.2.2))) | false => (match (decide (e34.2.1 < 0)) with | true => (ke (.inl (false, u4.2.2.2))) | false => (match (decide (e34.2.1 > 18014398509481984)) with | true => (ke (.inl (false, u4.2.2.2))) | false => (match zfL N ([(zB (zy e34))]) with | some y35 => (match (!y35) with | true => (ke (.inl (false, u4.2.2.2))) | false => (match zpo N (u4.1, u4.2.1, u4.2.2.1, u4.2.2.2, e34) with | some y36 => (match y36 with | .inl z37 => (ke (.inl (z37.2.2.1, z37.2.2.2.2.1))) | .inr z38 => (match (z38.2.2.2.2.1 != 5) with | true => (match (z38.2.2.2.2.2.2.2.1 != 0) with | true => (ke (.inl (false, z38.2.2.2.1))) | false => (match (z38.2.2.2.2.1 == 5) with | true => (match (decide (z38.2.2.2.2.2.2.2.1 < 0)) with | true => (ke (.inl (false, z38.2.2.2.1))) | false => (match (decide (z38.2.2.2.2.2.2.2.1 >= z38.2.1)) with | true => (ke (.inl (false, z38.2.2.2.1))) | false => (match (z38.2.2.2.2.2.2.2.1 == z38.1) with | true => (ke (.inl (false, z38.2.2.2.1))) | false => (match (z38.2.2.1 == 0) with | true => (match (z38.2.2.2.2.1 != 1) with | true => (ke (.inl (false, z38.2.2.2.1))) | false => (kn (z38.1, z38.2.1, (i64 (z38.2.2.1 + 1)), z38.2.2.2.1))) | false => (if 0 <= (i64 (z38.2.2.1 - 1)) then (match z38.2.2.2.1[(i64 (z38.2.2.1 - 1)).toNat]? with | some c39 => (match zk9 c39 with | some e40 => (match (decide (z38.2.2.2.2.2.1 < e40.2.1)) with | true => (ke (.inl (false, z38.2.2.2.1))) | false => (match zlo N (z38.2.2.2.2, e40) with | some y41 => (match (!y41) with | true => (ke (.inl (false, z38.2.2.2.1))) | false => (match zii N z38.2.2.2.2.1 with | some y42 => (match y42 with | true => (match zcM N ((zy e40), (zy z38.2.2.2.2)) with | some y43 => (match (!y43) with | true => (ke (.inl (false, z38.2.2.2.1))) | false => (kn (z38.1, z38.2.1, (i64 (z38.2.2.1 + 1)), z38.2.2.2.1))) | none => none) | false => (kn (z38.1, z38.2.1, (i64 (z38.2.2.1 + 1)), z38.2.2.2.1))) | none => none)) | none => none)) | none => none) | none => none) else none))))) | false => (match (z38.2.2.1 == 0) with | true => (match (z38.2.2.2.2.1 != 1) with | true => (ke (.inl (false, z38.2.2.2.1))) | false => (kn (z38.1, z38.2.1, (i64 (z38.2.2.1 + 1)), z38.2.2.2.1))) | false => (if 0 <= (i64 (z38.2.2.1 - 1)) then (match z38.2.2.2.1[(i64 (z38.2.2.1 - 1)).toNat]? with | some c44 => (match zk9 c44 with | some e45 => (match (decide (z38.2.2.2.2.2.1 < e45.2.1)) with | true => (ke (.inl (false, z38.2.2.2.1))) | false => (match zlo N (z38.2.2.2.2, e45) with | some y46 => (match (!y46) with | true => (ke (.inl (false, z38.2.2.2.1))) | false => (match zii N z38.2.2.2.2.1 with | some y47 => (match y47 with | true => (match zcM N ((zy e45), (zy z38.2.2.2.2)) with | some y48 => (match (!y48) with | true => (ke (.inl (false, z38.2.2.2.1))) | false => (kn (z38.1, z38.2.1, (i64 (z38.2.2.1 + 1)), z38.2.2.2.1))) | none => none) | false => (kn (z38.1, z38.2.1, (i64 (z38.2.2.1 + 1)), z38.2.2.2.1))) | none => none)) | none => none)) | none => none) | none => none) else none)))) | false => (match (z38.2.2.2.2.1 == 5) with | true => (match (decide (z38.2.2.2.2.2.2.2.1 < 0)) with | true => (ke (.inl (false, z38.2.2.2.1))) | false => (match (decide (z38.2.2.2.2.2.2.2.1 >= z38.2.1)) with | true => (ke (.inl (false, z38.2.2.2.1))) | false => (match (z38.2.2.2.2.2.2.2.1 == z38.1) with | true => (ke (.inl (false, z38.2.2.2.1))) | false => (match (z38.2.2.1 == 0) with | true => (match (z38.2.2.2.2.1 != 1) with | true => (ke (.inl (false, z38.2.2.2.1))) | false => (kn (z38.1, z38.2.1, (i64 (z38.2.2.1 + 1)), z38.2.2.2.1))) | false => (if 0 <= (i64 (z38.2.2.1 - 1)) then (match z38.2.2.2.1[(i64 (z38.2.2.1 - 1)).toNat]? with | some c49 => (match zk9 c49 with | some e50 => (match (decide (z38.2.2.2.2.2.1 < e50.2.1)) with | true => (ke (.inl (false, z38.2.2.2.1))) | false => (match zlo N (z38.2.2.2.2, e50) with | some y51 => (match (!y51) with | true => (ke (.inl (false, z38.2.2.2.1))) | false => (match zii N z38.2.2.2.2.1 with | some y52 => (match y52 with | true => (match zcM N ((zy e50), (zy z38.2.2.2.2)) with | some y53 => (match (!y53) with | true => (ke (.inl (false, z38.2.2.2.1))) | false => (kn (z38.1, z38.2.1, (i64 (z38.2.2.1 + 1)), z38.2.2.2.1))) | none => none) | false => (kn (z38.1, z38.2.1, (i64 (z38.2.2.1 + 1)), z38.2.2.2.1))) | none => none)) | none => none)) | none => none) | none => none) else none))))) | false => (match (z38.2.2.1 == 0) with | true => (match (z38.2.2.2.2.1 != 1) with | true => (ke (.inl (false, z38.2.2.2.1))) | false => (kn (z38.1, z38.2.1, (i64 (z38.2.2.1 + 1)), z38.2.2.2.1))) | false => (if 0 <= (i64 (z38.2.2.1 - 1)) then (match z38.2.2.2.1[(i64 (z38.2.2.1 - 1)).toNat]? with | some c54 => (match zk9 c54 with | some e55 => (match (decide (z38.2.2.2.2.2.1 < e55.2.1)) with | true => (ke (.inl (false, z38.2.2.2.1))) | false => (match zlo N (z38.2.2.2.2, e55) with | some y56 => (match (!y56) with | true => (ke (.inl (false, z38.2.2.2.1))) | false => (match zii N z38.2.2.2.2.1 with | some y57 => (match y57 with | true => (match zcM N ((zy e55), (zy z38.2.2.2.2)) with | some y58 => (match (!y58) with | true => (ke (.inl (false, z38.2.2.2.1))) | false => (kn (z38.1, z38.2.1, (i64 (z38.2.2.1 + 1)), z38.2.2.2.1))) | none => none) | false => (kn (z38.1, z38.2.1, (i64 (z38.2.2.1 + 1)), z38.2.2.2.1))) | none => none)) | none => none)) | none => none) | none => none) else none))))) | none => none)) | none => none))))) | none => none) | none => none) else none) | false => (ke (.inr u4.2.2.2)))
abbrev zvM (N : Nat) (x : Int × Int × Int × qL) : Option ((Bool × qL) ⊕ (qL)) := (jA N).L N x
def zec (N : Nat) : FSpec where
 X := qL × Int × Int
 Y := Bool
 ash := [[some 29], [none], [none]]
 S := ⟨[[none]], [], [], [], []⟩
 pat := fun a b => zk a fun v1 c2 => ji v1 fun c3 => zk c3 fun c4 c5 => jb 29 c4 fun a0 => zQ c5 <| zk c2 fun v6 c7 => Jk .i64 v6 fun a1 => zk c7 fun v8 c9 => Jk .i64 v8 fun a2 => zQ c9 <| zQ b <| some (a0, a1, a2)
 args := fun x => [(AV.agg [(AV.list 29 x.1 none)]), (AV.v (.int .i64 x.2.1)), (AV.v (.int .i64 x.2.2))]
 ret := fun y => ⟨(AV.v (.bool y)), [], none, [], [], [], none⟩
 t := fun x α k => (match zvM N (x.2.1, x.2.2, 0, x.1) with | some y59 => (match y59 with | .inl z60 => (k z60.1) | .inr z61 => (match (decide ((z61.length : Int) >= 1)) with | true => (k (decide ((z61.length : Int) <= 100))) | false => (k false))) | none => none)
abbrev zyT (N : Nat) (x : qL × Int × Int) : Option (Bool) := (zec N).d x
def zcc (N : Nat) : List (Nat × LSpec) := [(4, jA N), (16, Jf N)]
def zfe : Code := Tryd.f78.body.getD .skip
theorem zl0 (N : Nat) : Par (Jf N).b := by
 intro x α β kn ke kn' ke' r r' h h1 h2
 revert h
 dsimp only [Jf]
 (repeat' (first | (with_reducible refine ze ?_ ?_) | split)) <;> intro h <;> first | exact h1 _ h | exact h2 _ h | cases h
theorem zjX (N : Nat) : zlv (zn qP) (zw7 N) j3 N (zcc N) 16 zfe (Jf N) := fun x α kn ke => by kernel_rfl
theorem zeq (N : Nat) : ZE qP j3 N (zcc N) 16 (zc 16 zfe) :=
 jU (zd qP) (zi _) zl j3 N (zcc N) 16 zfe (l := []) (by kernel_rfl) an (Jf N) rfl (fun s x hc h => by dsimp only [Jf] at h; exact zI hc h (fun _ _ => rfl) rfl rfl rfl) (zjX N) (zl0 N)
theorem zsM (N : Nat) : Par (jA N).b := by
 intro x α β kn ke kn' ke' r r' h h1 h2
 revert h
 dsimp only [jA]
 (repeat' (first | (with_reducible refine ze ?_ ?_) | split)) <;> intro h <;> first | exact h1 _ h | exact h2 _ h | cases h
theorem zl2 (N : Nat) : jc (zn qP) (zw7 N) j3 N (zcc N) 4 zfe (jA N) := fun x α kn ke => by kernel_rfl
theorem zpn (N : Nat) : ZE qP j3 N (zcc N) 4 (zc 4 zfe) :=
 zD (zd qP) (zi _) zl j3 N (zcc N) 4 zfe (l := [(16, zc 16 zfe)]) (by kernel_rfl) (by kernel_rfl) (al (zeq N) an) (jA N) rfl (fun s x hc h => by dsimp only [jA] at h; exact zI hc h (fun _ _ => rfl) rfl rfl rfl) (fun _ => rfl) (zl2 N) (zsM N)
theorem ztz (N : Nat) : Zd (zec N).t := by
 intro x α β k k' r r' h h1
 revert h
 dsimp only [zec]
 (repeat' (first | (with_reducible refine ze ?_ ?_) | split)) <;> intro h <;> first | exact h1 _ h | cases h
theorem zt4 (N : Nat) : Zf (zn qP) (zw7 N) j3 (lam N (zcc N)) Tryd.f78 (zec N) := fun x => by kernel_rfl
theorem zyV (N : Nat) (a : List AV) (b : qL) (x : (zec N).X) (h : (zec N).pat a b = some x) : a = (zec N).args x /\ b = (zec N).bs x := by
 obtain ⟨v1, c2, rfl, g0⟩ := zb (show zk _ _ = some x from h)
 obtain ⟨c3, rfl, g1⟩ := zS g0; clear g0
 obtain ⟨c4, c5, rfl, g2⟩ := zb g1; clear g1
 obtain ⟨a0, rfl, g3⟩ := zq g2; clear g2
 obtain ⟨rfl, g4⟩ := zg g3; clear g3
 obtain ⟨v6, c7, rfl, g5⟩ := zb g4; clear g4
 obtain ⟨a1, rfl, g6⟩ := zG g5; clear g5
 obtain ⟨v8, c9, rfl, g7⟩ := zb g6; clear g6
 obtain ⟨a2, rfl, g8⟩ := zG g7; clear g7
 obtain ⟨rfl, g9⟩ := zg g8; clear g8
 obtain ⟨rfl, g10⟩ := zg g9; clear g9
 clear h
 cases g10
 exact ⟨rfl, rfl⟩
def zCJ (N : Nat) : Ent qP := zx (zd qP) (zi _) zl 78 Tryd.f78 Tryd.func78 rfl j3 (lam N (zcc N)) (zm (l := [(4, zc 4 zfe), (16, zc 16 zfe)]) (al (zpn N) (al (zeq N) an)) (by kernel_rfl)) (zec N) (fun _ => ⟨rfl, rfl⟩) (zt4 N) (zyV N) (ztz N)
def zbM : Nat -> Keep × Keep := anL [(4, qK [1, 3] [] [1], qK [1, 2] [] [1])]
def zBL (N : Nat) : GamK := gam (P := qP) [zCJ N]
def jG (N : Nat) : LSpec where
 X := Int × qL
 Y := (Bool × qL) ⊕ (qL)
 p := fun s => rdS 26 0 [(1, .ptr 1 0), (3, .int .i64)] [(1, .cells [.lst 1])] s fun ⟨_, a0, _⟩ ⟨⟨a1, _⟩, _⟩ => (a0, a1)
 st := fun u4 => mkS 26 [(1, (AV.ptr 1 0)), (3, (qI u4.1))] [(1, [(AV.list 1 u4.2 none)])] (zbM 4).1.toks 0
 out := fun y => match y with
  | .inl y => (.ret, mkS 26 [(1, (AV.ptr 1 0)), (2, (AV.v (.bool y.1)))] [(1, [(AV.list 1 y.2 none)])] (zbM 4).2.toks 0)
  | .inr y => (.exit 0, mkS 26 [(1, (AV.ptr 1 0))] [(1, [(AV.list 1 y none)])] (zbM 4).2.toks 0)
 b := fun u4 α kn ke => (match (decide (u4.1 < (u4.2.length : Int))) with | true => (if 0 <= u4.1 then (match u4.2[u4.1.toNat]? with | some c4 => (match zf1 c4 with | some e5 => (match zyT N (e5.1, u4.1, (u4.2.length : Int)) with | some y6 => (match (!y6) with | true => (ke (.inl (false, u4.2))) | false => (kn ((i64 (u4.1 + 1)), u4.2))) | none => none) | none => none) | none => none) else none) | false => (ke (.inr u4.2)))
abbrev zwx (N : Nat) (x : Int × qL) : Option ((Bool × qL) ⊕ (qL)) := (jG N).L N x
def zdW (N : Nat) : FSpec where
 X := qL
 Y := Bool
 ash := [[some 1]]
 S := ⟨[[none]], [], [], [], []⟩
 pat := fun a b => zk a fun v1 c2 => ji v1 fun c3 => zk c3 fun c4 c5 => jb 1 c4 fun a0 => zQ c5 <| zQ c2 <| zQ b <| some a0
 args := fun x => [(AV.agg [(AV.list 1 x none)])]
 ret := fun y => ⟨(AV.v (.bool y)), [], none, [], [], [], none⟩
 t := fun x α k => (match zwx N (0, x) with | some y7 => (match y7 with | .inl z8 => (k z8.1) | .inr z9 => (k (decide ((z9.length : Int) <= 500)))) | none => none)
abbrev ztl (N : Nat) (x : qL) : Option (Bool) := (zdW N).d x
def zgz (N : Nat) : List (Nat × LSpec) := [(4, jG N)]
def ztX : Code := Tryd.f55.body.getD .skip
theorem zqx (N : Nat) : Par (jG N).b := by
 intro x α β kn ke kn' ke' r r' h h1 h2
 revert h
 dsimp only [jG]
 (repeat' (first | (with_reducible refine ze ?_ ?_) | split)) <;> intro h <;> first | exact h1 _ h | exact h2 _ h | cases h
theorem zmR (N : Nat) : jc (zn qP) (zBL N) zbM N (zgz N) 4 ztX (jG N) := fun x α kn ke => by kernel_rfl
theorem zmK (N : Nat) : ZE qP zbM N (zgz N) 4 (zc 4 ztX) :=
 zD (zd qP) (zi _) zl zbM N (zgz N) 4 ztX (l := []) (by kernel_rfl) (by kernel_rfl) an (jG N) rfl (fun s x hc h => by dsimp only [jG] at h; exact zI hc h (fun _ _ => rfl) rfl rfl rfl) (fun _ => rfl) (zmR N) (zqx N)
theorem zrg (N : Nat) : Zd (zdW N).t := by
 intro x α β k k' r r' h h1
 revert h
 dsimp only [zdW]
 (repeat' (first | (with_reducible refine ze ?_ ?_) | split)) <;> intro h <;> first | exact h1 _ h | cases h
theorem zrF (N : Nat) : Zf (zn qP) (zBL N) zbM (lam N (zgz N)) Tryd.f55 (zdW N) := fun x => by kernel_rfl
theorem zxc (N : Nat) (a : List AV) (b : qL) (x : (zdW N).X) (h : (zdW N).pat a b = some x) : a = (zdW N).args x /\ b = (zdW N).bs x := by
 obtain ⟨v1, c2, rfl, g0⟩ := zb (show zk _ _ = some x from h)
 obtain ⟨c3, rfl, g1⟩ := zS g0; clear g0
 obtain ⟨c4, c5, rfl, g2⟩ := zb g1; clear g1
 obtain ⟨a0, rfl, g3⟩ := zq g2; clear g2
 obtain ⟨rfl, g4⟩ := zg g3; clear g3
 obtain ⟨rfl, g5⟩ := zg g4; clear g4
 obtain ⟨rfl, g6⟩ := zg g5; clear g5
 clear h
 cases g6
 exact ⟨rfl, rfl⟩
def zBD (N : Nat) : Ent qP := zx (zd qP) (zi _) zl 55 Tryd.f55 Tryd.func55 rfl zbM (lam N (zgz N)) (zm (l := [(4, zc 4 ztX)]) (al (zmK N) an) (by kernel_rfl)) (zdW N) (fun _ => ⟨rfl, rfl⟩) (zrF N) (zxc N) (zrg N)
def zbC : Nat -> Keep × Keep := anL [(4, ⟨[3, 5], [], [3], [(0, 25)], [], [], [], [], false, none, []⟩, qK [4] [] [])]
def zzt (N : Nat) : GamK := gam (P := qP) []
def Z8 (N : Nat) : LSpec where
 X := qL × Int × RT1
 Y := (Int) ⊕ (Unit)
 p := fun s => rdS 20 0 [(0, .lst 25), (3, .ptr 3 0), (5, .int .i64)] [(3, .row RK1)] s fun ⟨a0, _, a1, _⟩ ⟨a2, _⟩ => (a0, a1, a2)
 st := fun u4 => mkS 20 [(0, (AV.list 25 u4.1 none)), (3, (AV.ptr 3 0)), (5, (qI u4.2.1))] [(3, (zw u4.2.2))] (zbC 4).1.toks 0
 out := fun y => match y with
  | .inl y => (.ret, mkS 20 [(4, (qI y))] [] (zbC 4).2.toks 0)
  | .inr y => (.exit 0, mkS 20 [] [] (zbC 4).2.toks 0)
 b := fun u4 α kn ke => (match (decide (u4.2.1 < (u4.1.length : Int))) with | true => (if 0 <= u4.2.1 then (match u4.1[u4.2.1.toNat]? with | some c1 => (match Jt (c1.drop 0) with | some e2 => (match (((e2.1 == u4.2.2.1) && ((e2.2.1 == u4.2.2.2.1) && ((e2.2.2.1 == u4.2.2.2.2.1) && ((e2.2.2.2.1 == u4.2.2.2.2.2.1) && true)))) && ((e2.2.2.2.2.1 == u4.2.2.2.2.2.2.1) && ((e2.2.2.2.2.2.1 == u4.2.2.2.2.2.2.2.1) && ((e2.2.2.2.2.2.2.1 == u4.2.2.2.2.2.2.2.2.1) && ((e2.2.2.2.2.2.2.2.1 == u4.2.2.2.2.2.2.2.2.2.1) && ((e2.2.2.2.2.2.2.2.2.1 == u4.2.2.2.2.2.2.2.2.2.2.1) && true)))))) with | true => (ke (.inl u4.2.1)) | false => (kn (u4.1, (i64 (u4.2.1 + 1)), u4.2.2))) | none => none) | none => none) else none) | false => (ke (.inr ())))
abbrev zvR (N : Nat) (x : qL × Int × RT1) : Option ((Int) ⊕ (Unit)) := (Z8 N).L N x
def zkq (N : Nat) : FSpec where
 X := qL × RT1
 Y := Int
 ash := [[some 25], [none, none, none, none, none, none, none, none, none]]
 S := ⟨[[none]], [], [], [], []⟩
 pat := fun a b => rdA [.lst 25, .agg RK1] [] a b fun ⟨a0, a1, _⟩ _ => (a0, a1)
 args := fun x => [(AV.list 25 x.1 none), (AV.agg (zw x.2))]
 ret := fun y => ⟨(AV.v (.int .i64 y)), [], none, [], [], [], none⟩
 t := fun x α k => (match zvR N (x.1, 0, x.2) with | some y3 => (match y3 with | .inl z4 => (k z4) | .inr z5 => (k (-1))) | none => none)
abbrev zuZ (N : Nat) (x : qL × RT1) : Option (Int) := (zkq N).d x
def zgq (N : Nat) : List (Nat × LSpec) := [(4, Z8 N)]
def zuy : Code := Tryd.f18.body.getD .skip
theorem zsO (N : Nat) : Par (Z8 N).b := by
 intro x α β kn ke kn' ke' r r' h h1 h2
 revert h
 dsimp only [Z8]
 (repeat' (first | (with_reducible refine ze ?_ ?_) | split)) <;> intro h <;> first | exact h1 _ h | exact h2 _ h | cases h
theorem zoD (N : Nat) : jc (zn qP) (zzt N) zbC N (zgq N) 4 zuy (Z8 N) := fun x α kn ke => by kernel_rfl
theorem znk (N : Nat) : ZE qP zbC N (zgq N) 4 (zc 4 zuy) :=
 zD (zd qP) (zi _) zl zbC N (zgq N) 4 zuy (l := []) (by kernel_rfl) (by kernel_rfl) an (Z8 N) rfl (fun s x hc h => by dsimp only [Z8] at h; exact zI hc h (fun _ _ => rfl) rfl rfl rfl) (fun _ => rfl) (zoD N) (zsO N)
theorem ztM (N : Nat) : Zd (zkq N).t := by
 intro x α β k k' r r' h h1
 revert h
 dsimp only [zkq]
 (repeat' (first | (with_reducible refine ze ?_ ?_) | split)) <;> intro h <;> first | exact h1 _ h | cases h
theorem zsv (N : Nat) : Zf (zn qP) (zzt N) zbC (lam N (zgq N)) Tryd.f18 (zkq N) := fun x => by kernel_rfl
def zCB (N : Nat) : Ent qP := zx (zd qP) (zi _) zl 18 Tryd.f18 Tryd.func18 rfl zbC (lam N (zgq N)) (zm (l := [(4, zc 4 zuy)]) (al (znk N) an) (by kernel_rfl)) (zkq N) (fun _ => ⟨rfl, rfl⟩) (zsv N) (fun _ _ _ h => zu h (fun _ _ => rfl) (fun _ _ => rfl)) (ztM N)
def zwJ : Nat -> Keep × Keep := anL []
def zC9 (N : Nat) : GamK := gam (P := qP) []
def zd2 (N : Nat) : FSpec where
 X := qL
 Y := RT7
 ash := [[some 29]]
 S := ⟨[[none, none, none, none, none, none, none, none, none, none, none, none, none, some 9, none, none, none, none, none, none, none, none, none, none, none, none, none, none, none]], [], [], [], []⟩
 pat := fun a b => zk a fun v1 c2 => ji v1 fun c3 => zk c3 fun c4 c5 => jb 29 c4 fun a0 => zQ c5 <| zQ c2 <| zQ b <| some a0
 args := fun x => [(AV.agg [(AV.list 29 x none)])]
 ret := fun y => ⟨(AV.agg (zM y)), [], none, [], [], [], none⟩
 t := fun x α k => (if 0 <= (i64 ((x.length : Int) - 1)) then (match x[(i64 ((x.length : Int) - 1)).toNat]? with | some c1 => (match zk9 c1 with | some e2 => (k e2) | none => none) | none => none) else none)
abbrev zht (N : Nat) (x : qL) : Option (RT7) := (zd2 N).d x
theorem zql (N : Nat) : Zd (zd2 N).t := by
 intro x α β k k' r r' h h1
 revert h
 dsimp only [zd2]
 (repeat' (first | (with_reducible refine ze ?_ ?_) | split)) <;> intro h <;> first | exact h1 _ h | cases h
theorem ztU (N : Nat) : Zf (zn qP) (zC9 N) zwJ (lam N []) Tryd.f16 (zd2 N) := fun x => by kernel_rfl
theorem zyd (N : Nat) (a : List AV) (b : qL) (x : (zd2 N).X) (h : (zd2 N).pat a b = some x) : a = (zd2 N).args x /\ b = (zd2 N).bs x := by
 obtain ⟨v1, c2, rfl, g0⟩ := zb (show zk _ _ = some x from h)
 obtain ⟨c3, rfl, g1⟩ := zS g0; clear g0
 obtain ⟨c4, c5, rfl, g2⟩ := zb g1; clear g1
 obtain ⟨a0, rfl, g3⟩ := zq g2; clear g2
 obtain ⟨rfl, g4⟩ := zg g3; clear g3
 obtain ⟨rfl, g5⟩ := zg g4; clear g4
 obtain ⟨rfl, g6⟩ := zg g5; clear g5
 clear h
 cases g6
 exact ⟨rfl, rfl⟩
def zs8 (N : Nat) : Ent qP := zx (zd qP) (zi _) zl 16 Tryd.f16 Tryd.func16 rfl zwJ (lam N []) (zm (l := []) an (by kernel_rfl)) (zd2 N) (fun _ => ⟨rfl, rfl⟩) (ztU N) (zyd N) (zql N)
@[reducible] def zo2 (e : RT7) : RT1 := (e.2.2.2.2.1, e.2.2.2.2.2.1, e.2.2.2.2.2.2.1, e.2.2.2.2.2.2.2.1, e.2.2.2.2.2.2.2.2.1, e.2.2.2.2.2.2.2.2.2.1, e.2.2.2.2.2.2.2.2.2.2.1, e.2.2.2.2.2.2.2.2.2.2.2.1, e.2.2.2.2.2.2.2.2.2.2.2.2.1, ())
def Ja : Nat -> Keep × Keep := anL [(4, ⟨[5], [], [], [(0, 9), (1, 9)], [], [], [], [], false, none, []⟩, qK [4] [] []), (12, ⟨[5, 6], [], [], [(0, 9), (1, 9)], [], [], [], [], false, none, []⟩, ⟨[4, 5], [], [], [(0, 9), (1, 9)], [], [], [], [], false, none, []⟩)]
def zy5 (N : Nat) : GamK := gam (P := qP) []
def Zx (N : Nat) : LSpec where
 X := qL × qL × Int × Int
 Y := (qL × qL × Bool × Int) ⊕ (qL × qL × Int)
 p := fun s => rdS 28 0 [(0, .lst 9), (1, .lst 9), (5, .int .i64), (6, .int .i64)] [] s fun ⟨a0, a1, a2, a3, _⟩ _ => (a0, a1, a2, a3)
 st := fun u12 => mkS 28 [(0, (AV.list 9 u12.1 none)), (1, (AV.list 9 u12.2.1 none)), (5, (qI u12.2.2.1)), (6, (qI u12.2.2.2))] [] (Ja 12).1.toks 0
 out := fun y => match y with
  | .inl y => (.ret, mkS 28 [(0, (AV.list 9 y.1 none)), (1, (AV.list 9 y.2.1 none)), (4, (AV.v (.bool y.2.2.1))), (5, (qI y.2.2.2))] [] (Ja 12).2.toks 0)
  | .inr y => (.exit 2, mkS 28 [(0, (AV.list 9 y.1 none)), (1, (AV.list 9 y.2.1 none)), (5, (qI y.2.2))] [] (Ja 12).2.toks 0)
 b := fun u12 α kn ke => (match (decide (u12.2.2.2 < (u12.2.1.length : Int))) with | true => (if 0 <= u12.2.2.1 then (match u12.1[u12.2.2.1.toNat]? with | some c1 => (match Jt c1 with | some e2 => (if 0 <= u12.2.2.2 then (match u12.2.1[u12.2.2.2.toNat]? with | some c3 => (match Jt c3 with | some e4 => (match (((e2.1 == e4.1) && ((e2.2.1 == e4.2.1) && ((e2.2.2.1 == e4.2.2.1) && ((e2.2.2.2.1 == e4.2.2.2.1) && true)))) && ((e2.2.2.2.2.1 == e4.2.2.2.2.1) && ((e2.2.2.2.2.2.1 == e4.2.2.2.2.2.1) && ((e2.2.2.2.2.2.2.1 == e4.2.2.2.2.2.2.1) && ((e2.2.2.2.2.2.2.2.1 == e4.2.2.2.2.2.2.2.1) && ((e2.2.2.2.2.2.2.2.2.1 == e4.2.2.2.2.2.2.2.2.1) && true)))))) with | true => (ke (.inl (u12.1, u12.2.1, true, u12.2.2.1))) | false => (kn (u12.1, u12.2.1, u12.2.2.1, (i64 (u12.2.2.2 + 1))))) | none => none) | none => none) else none) | none => none) | none => none) else none) | false => (ke (.inr (u12.1, u12.2.1, u12.2.2.1))))
abbrev zhu (N : Nat) (x : qL × qL × Int × Int) : Option ((qL × qL × Bool × Int) ⊕ (qL × qL × Int)) := (Zx N).L N x
def Z6 (N : Nat) : LSpec where
 X := qL × qL × Int
 Y := (Bool) ⊕ (Unit)
 p := fun s => rdS 28 0 [(0, .lst 9), (1, .lst 9), (5, .int .i64)] [] s fun ⟨a0, a1, a2, _⟩ _ => (a0, a1, a2)
 st := fun u4 => mkS 28 [(0, (AV.list 9 u4.1 none)), (1, (AV.list 9 u4.2.1 none)), (5, (qI u4.2.2))] [] (Ja 4).1.toks 0
 out := fun y => match y with
  | .inl y => (.ret, mkS 28 [(4, (AV.v (.bool y)))] [] (Ja 4).2.toks 0)
  | .inr y => (.exit 0, mkS 28 [] [] (Ja 4).2.toks 0)
 b := fun u4 α kn ke => (match (decide (u4.2.2 < (u4.1.length : Int))) with | true => (match zhu N (u4.1, u4.2.1, u4.2.2, 0) with | some y5 => (match y5 with | .inl z6 => (ke (.inl z6.2.2.1)) | .inr z7 => (kn (z7.1, z7.2.1, (i64 (z7.2.2 + 1))))) | none => none) | false => (ke (.inr ())))
abbrev zvY (N : Nat) (x : qL × qL × Int) : Option ((Bool) ⊕ (Unit)) := (Z6 N).L N x
def zjD (N : Nat) : FSpec where
 X := qL × qL
 Y := Bool
 ash := [[some 9], [some 9]]
 S := ⟨[[none]], [], [], [], []⟩
 pat := fun a b => rdA [.lst 9, .lst 9] [] a b fun ⟨a0, a1, _⟩ _ => (a0, a1)
 args := fun x => [(AV.list 9 x.1 none), (AV.list 9 x.2 none)]
 ret := fun y => ⟨(AV.v (.bool y)), [], none, [], [], [], none⟩
 t := fun x α k => (match zvY N (x.1, x.2, 0) with | some y8 => (match y8 with | .inl z9 => (k z9) | .inr z10 => (k false)) | none => none)
abbrev zqQ (N : Nat) (x : qL × qL) : Option (Bool) := (zjD N).d x
def zb0 (N : Nat) : List (Nat × LSpec) := [(4, Z6 N), (12, Zx N)]
def zeZ : Code := Tryd.f83.body.getD .skip
theorem zpl (N : Nat) : Par (Zx N).b := by
 intro x α β kn ke kn' ke' r r' h h1 h2
 revert h
 dsimp only [Zx]
 (repeat' (first | (with_reducible refine ze ?_ ?_) | split)) <;> intro h <;> first | exact h1 _ h | exact h2 _ h | cases h
theorem zlt (N : Nat) : jc (zn qP) (zy5 N) Ja N (zb0 N) 12 zeZ (Zx N) := fun x α kn ke => by kernel_rfl
theorem zeM (N : Nat) : ZE qP Ja N (zb0 N) 12 (zc 12 zeZ) :=
 zD (zd qP) (zi _) zl Ja N (zb0 N) 12 zeZ (l := []) (by kernel_rfl) (by kernel_rfl) an (Zx N) rfl (fun s x hc h => by dsimp only [Zx] at h; exact zI hc h (fun _ _ => rfl) rfl rfl rfl) (fun _ => rfl) (zlt N) (zpl N)
theorem zsS (N : Nat) : Par (Z6 N).b := by
 intro x α β kn ke kn' ke' r r' h h1 h2
 revert h
 dsimp only [Z6]
 (repeat' (first | (with_reducible refine ze ?_ ?_) | split)) <;> intro h <;> first | exact h1 _ h | exact h2 _ h | cases h
theorem znS (N : Nat) : jc (zn qP) (zy5 N) Ja N (zb0 N) 4 zeZ (Z6 N) := fun x α kn ke => by kernel_rfl
theorem zms (N : Nat) : ZE qP Ja N (zb0 N) 4 (zc 4 zeZ) :=
 zD (zd qP) (zi _) zl Ja N (zb0 N) 4 zeZ (l := [(12, zc 12 zeZ)]) (by kernel_rfl) (by kernel_rfl) (al (zeM N) an) (Z6 N) rfl (fun s x hc h => by dsimp only [Z6] at h; exact zI hc h (fun _ _ => rfl) rfl rfl rfl) (fun _ => rfl) (znS N) (zsS N)
theorem zqD (N : Nat) : Zd (zjD N).t := by
 intro x α β k k' r r' h h1
 revert h
 dsimp only [zjD]
 (repeat' (first | (with_reducible refine ze ?_ ?_) | split)) <;> intro h <;> first | exact h1 _ h | cases h
theorem ztR (N : Nat) : Zf (zn qP) (zy5 N) Ja (lam N (zb0 N)) Tryd.f83 (zjD N) := fun x => by kernel_rfl
def zCd (N : Nat) : Ent qP := zx (zd qP) (zi _) zl 83 Tryd.f83 Tryd.func83 rfl Ja (lam N (zb0 N)) (zm (l := [(4, zc 4 zeZ), (12, zc 12 zeZ)]) (al (zms N) (al (zeM N) an)) (by kernel_rfl)) (zjD N) (fun _ => ⟨rfl, rfl⟩) (ztR N) (fun _ _ _ h => zu h (fun _ _ => rfl) (fun _ _ => rfl)) (zqD N)
def JP : Nat -> Keep × Keep := anL [(4, ⟨[0, 1, 5], [], [0], [], [], [], [], [0], false, none, []⟩, ⟨[4], [], [0], [], [], [], [], [0], false, none, []⟩)]
def zvs (N : Nat) : GamK := gam (P := qP) []
def Zw (N : Nat) : LSpec where
 X := Nat × Int × Int × qA
 Y := (Bool × qA) ⊕ (qA)
 p := fun s => rdS 18 1 [(0, .vs0 0 1), (1, .int .i64), (5, .int .i64)] [(0, .tt)] s fun ⟨a0, a1, a2, _⟩ ⟨a3, _⟩ => (a0, a1, a2, a3)
 st := fun u4 => mkS 18 [(0, (AV.vs 0 0 u4.1 1)), (1, (qI u4.2.1)), (5, (qI u4.2.2.1))] [(0, u4.2.2.2)] (JP 4).1.toks 1
 out := fun y => match y with
  | .inl y => (.ret, mkS 18 [(4, (AV.v (.bool y.1)))] [(0, y.2)] (JP 4).2.toks 1)
  | .inr y => (.exit 0, mkS 18 [] [(0, y)] (JP 4).2.toks 1)
 b := fun u4 α kn ke => (match (decide (u4.2.2.1 < ((u4.1 : Nat) : Int))) with | true => (if 0 <= u4.2.2.1 /\ u4.2.2.1 < (u4.1 : Int) then (match u4.2.2.2[((0 + u4.2.2.1.toNat) * 1)]? with | some x4 => (match x4 with | .v (.int q6 n5) => (if q6 = .i64 then (match (n5 == u4.2.1) with | true => (ke (.inl (true, (u4.2.2.2.map dat0)))) | false => (kn (u4.1, u4.2.1, (i64 (u4.2.2.1 + 1)), (u4.2.2.2.map dat0)))) else none) | _ => none) | none => none) else none) | false => (ke (.inr (u4.2.2.2.map dat0))))
abbrev zmF (N : Nat) (x : Nat × Int × Int × qA) : Option ((Bool × qA) ⊕ (qA)) := (Zw N).L N x
def zeI (N : Nat) : FSpec where
 X := Nat × Int × qA
 Y := Bool × qA
 ash := [[none], [none]]
 bsh := [[]]
 S := ⟨[[none]], [[]], [], [], [0]⟩
 pat := fun a b => rdA [.vs0 0 1, .int .i64] [.tt] a b fun ⟨a0, a1, _⟩ ⟨a2, _⟩ => (a0, a1, a2)
 args := fun x => [(AV.vs 0 0 x.1 1), (AV.v (.int .i64 x.2.1))]
 bs := fun x => [x.2.2]
 ret := fun y => ⟨(AV.v (.bool y.1)), [y.2], none, [], [], [0], none⟩
 t := fun x α k => (match zmF N (x.1, x.2.1, 0, (x.2.2.map dat0)) with | some y7 => (match y7 with | .inl z8 => (k (z8.1, (z8.2.map dat0))) | .inr z9 => (k (false, (z9.map dat0)))) | none => none)
abbrev zgB (N : Nat) (x : Nat × Int × qA) : Option (Bool × qA) := (zeI N).d x
def zcS (N : Nat) : List (Nat × LSpec) := [(4, Zw N)]
def ziP : Code := Tryd.f60.body.getD .skip
theorem zno (N : Nat) : Par (Zw N).b := by
 intro x α β kn ke kn' ke' r r' h h1 h2
 revert h
 dsimp only [Zw]
 (repeat' (first | (with_reducible refine ze ?_ ?_) | split)) <;> intro h <;> first | exact h1 _ h | exact h2 _ h | cases h
theorem zj7 (N : Nat) : jc (zn qP) (zvs N) JP N (zcS N) 4 ziP (Zw N) := fun x α kn ke => by kernel_rfl
theorem zkS (N : Nat) : ZE qP JP N (zcS N) 4 (zc 4 ziP) :=
 zD (zd qP) (zi _) zl JP N (zcS N) 4 ziP (l := []) (by kernel_rfl) (by kernel_rfl) an (Zw N) rfl (fun s x hc h => by dsimp only [Zw] at h; exact zI hc h (fun _ _ => rfl) rfl rfl rfl) (fun _ => rfl) (zj7 N) (zno N)
theorem zoC (N : Nat) : Zd (zeI N).t := by
 intro x α β k k' r r' h h1
 revert h
 dsimp only [zeI]
 (repeat' (first | (with_reducible refine ze ?_ ?_) | split)) <;> intro h <;> first | exact h1 _ h | cases h
theorem zns (N : Nat) : Zf (zn qP) (zvs N) JP (lam N (zcS N)) Tryd.f60 (zeI N) := fun x => by kernel_rfl
def zwo (N : Nat) : Ent qP := zx (zd qP) (zi _) zl 60 Tryd.f60 Tryd.func60 rfl JP (lam N (zcS N)) (zm (l := [(4, zc 4 ziP)]) (al (zkS N) an) (by kernel_rfl)) (zeI N) (fun _ => ⟨rfl, rfl⟩) (zns N) (fun _ _ _ h => zu h (fun _ _ => rfl) (fun _ _ => rfl)) (zoC N)
def zb8 : Nat -> Keep × Keep := anL [(4, qK [1, 2, 5] [] [2], qK [4] [] [])]
def zAt (N : Nat) : GamK := gam (P := qP) [zs8 N]
def jz (N : Nat) : LSpec where
 X := Int × Int × qL
 Y := (Bool) ⊕ (Unit)
 p := fun s => rdS 22 0 [(1, .int .i64), (2, .ptr 2 0), (5, .int .i64)] [(2, .cells [.lst 1])] s fun ⟨a0, _, a1, _⟩ ⟨⟨a2, _⟩, _⟩ => (a0, a1, a2)
 st := fun u4 => mkS 22 [(1, (qI u4.1)), (2, (AV.ptr 2 0)), (5, (qI u4.2.1))] [(2, [(AV.list 1 u4.2.2 none)])] (zb8 4).1.toks 0
 out := fun y => match y with
  | .inl y => (.ret, mkS 22 [(4, (AV.v (.bool y)))] [] (zb8 4).2.toks 0)
  | .inr y => (.exit 0, mkS 22 [] [] (zb8 4).2.toks 0)
 b := fun u4 α kn ke => (match (decide (u4.2.1 < (u4.2.2.length : Int))) with | true => (if 0 <= u4.2.1 then (match u4.2.2[u4.2.1.toNat]? with | some c1 => (match zf1 c1 with | some e2 => (match zht N e2.1 with | some y3 => (match (decide (y3.2.1 > u4.1)) with | true => (ke (.inl false)) | false => (kn (u4.1, (i64 (u4.2.1 + 1)), u4.2.2))) | none => none) | none => none) | none => none) else none) | false => (ke (.inr ())))
abbrev zve (N : Nat) (x : Int × Int × qL) : Option ((Bool) ⊕ (Unit)) := (jz N).L N x
def zdO (N : Nat) : FSpec where
 X := qL × Int
 Y := Bool
 ash := [[some 1], [none]]
 S := ⟨[[none]], [], [], [], []⟩
 pat := fun a b => zk a fun v1 c2 => ji v1 fun c3 => zk c3 fun c4 c5 => jb 1 c4 fun a0 => zQ c5 <| zk c2 fun v6 c7 => Jk .i64 v6 fun a1 => zQ c7 <| zQ b <| some (a0, a1)
 args := fun x => [(AV.agg [(AV.list 1 x.1 none)]), (AV.v (.int .i64 x.2))]
 ret := fun y => ⟨(AV.v (.bool y)), [], none, [], [], [], none⟩
 t := fun x α k => (match zve N (x.2, 0, x.1) with | some y4 => (match y4 with | .inl z5 => (k z5) | .inr z6 => (k true)) | none => none)
abbrev zs6 (N : Nat) (x : qL × Int) : Option (Bool) := (zdO N).d x
def zgu (N : Nat) : List (Nat × LSpec) := [(4, jz N)]
def zrp : Code := Tryd.f57.body.getD .skip
theorem zrE (N : Nat) : Par (jz N).b := by
 intro x α β kn ke kn' ke' r r' h h1 h2
 revert h
 dsimp only [jz]
 (repeat' (first | (with_reducible refine ze ?_ ?_) | split)) <;> intro h <;> first | exact h1 _ h | exact h2 _ h | cases h
theorem zlA (N : Nat) : jc (zn qP) (zAt N) zb8 N (zgu N) 4 zrp (jz N) := fun x α kn ke => by kernel_rfl
theorem zow (N : Nat) : ZE qP zb8 N (zgu N) 4 (zc 4 zrp) :=
 zD (zd qP) (zi _) zl zb8 N (zgu N) 4 zrp (l := []) (by kernel_rfl) (by kernel_rfl) an (jz N) rfl (fun s x hc h => by dsimp only [jz] at h; exact zI hc h (fun _ _ => rfl) rfl rfl rfl) (fun _ => rfl) (zlA N) (zrE N)
theorem zuM (N : Nat) : Zd (zdO N).t := by
 intro x α β k k' r r' h h1
 revert h
 dsimp only [zdO]
 (repeat' (first | (with_reducible refine ze ?_ ?_) | split)) <;> intro h <;> first | exact h1 _ h | cases h
theorem zsL (N : Nat) : Zf (zn qP) (zAt N) zb8 (lam N (zgu N)) Tryd.f57 (zdO N) := fun x => by kernel_rfl
theorem zyB (N : Nat) (a : List AV) (b : qL) (x : (zdO N).X) (h : (zdO N).pat a b = some x) : a = (zdO N).args x /\ b = (zdO N).bs x := by
 obtain ⟨v1, c2, rfl, g0⟩ := zb (show zk _ _ = some x from h)
 obtain ⟨c3, rfl, g1⟩ := zS g0; clear g0
 obtain ⟨c4, c5, rfl, g2⟩ := zb g1; clear g1
 obtain ⟨a0, rfl, g3⟩ := zq g2; clear g2
 obtain ⟨rfl, g4⟩ := zg g3; clear g3
 obtain ⟨v6, c7, rfl, g5⟩ := zb g4; clear g4
 obtain ⟨a1, rfl, g6⟩ := zG g5; clear g5
 obtain ⟨rfl, g7⟩ := zg g6; clear g6
 obtain ⟨rfl, g8⟩ := zg g7; clear g7
 clear h
 cases g8
 exact ⟨rfl, rfl⟩
def zBP (N : Nat) : Ent qP := zx (zd qP) (zi _) zl 57 Tryd.f57 Tryd.func57 rfl zb8 (lam N (zgu N)) (zm (l := [(4, zc 4 zrp)]) (al (zow N) an) (by kernel_rfl)) (zdO N) (fun _ => ⟨rfl, rfl⟩) (zsL N) (zyB N) (zuM N)
end
end Go.Proofs.YthdgnfcbehcplaaDoor
end
section
namespace Go.Proofs.YthdgnfcbehcplaaDoor
noncomputable section
open Go.RowKit
set_option maxRecDepth 4000
set_option maxHeartbeats 4000000
def zau : Nat -> Keep × Keep := anL [(5, ⟨[1, 2, 3, 4], [], [1, 2, 3], [], [((2, 0), 1)], [], [((3, 0), 1)], [], false, some 2012288, []⟩, ⟨[2, 3], [], [2, 3], [], [((2, 0), 1)], [], [((3, 0), 1)], [], false, some 2012288, []⟩)]
def zwt (N : Nat) : GamK := gam (P := qP) []
def ZL (N : Nat) : LSpec where
 X := Int × qL × qL × Nat × qA × Nat × Nat
 Y := (qL × Nat × qA × Nat × Nat)
 p := fun s => rdF 27 0 2012288 [(1, .ptr 1 0), (2, .ptr 2 0), (3, .ptr 3 0), (4, .int .i64)] [(1, .cells [.lst 1]), (2, .cells [.tok 1 6400524288]), (3, .cells [.vs0 2012288 1]), (2012288, .tt)] s fun ⟨_, _, _, a0, _⟩ ⟨⟨a1, _⟩, ⟨a2, _⟩, ⟨a3, _⟩, a4, _⟩ a5 a6 => (a0, a1, a2, a3, a4, a5, a6)
 st := fun u5 => mkF 27 [(1, (AV.ptr 1 0)), (2, (AV.ptr 2 0)), (3, (AV.ptr 3 0)), (4, (qI u5.1))] [(1, [(AV.list 1 u5.2.1 none)]), (2, [(AV.list 1 u5.2.2.1 (some 6400524288))]), (3, [(AV.vs 2012288 0 u5.2.2.2.1 1)]), (2012288, u5.2.2.2.2.1)] (zau 5).1.toks 0 (some (2012288, u5.2.2.2.2.2.1, u5.2.2.2.2.2.2))
 out := fun y => (.exit 0, mkF 27 [(2, (AV.ptr 2 0)), (3, (AV.ptr 3 0))] [(2, [(AV.list 1 y.1 (some 6400524288))]), (3, [(AV.vs 2012288 0 y.2.1 1)]), (2012288, y.2.2.1)] (zau 5).2.toks 0 (some (2012288, y.2.2.2.1, y.2.2.2.2)))
 b := fun u5 α kn ke => (match (decide (u5.1 < (u5.2.1.length : Int))) with | true => (if 0 <= u5.1 then (match u5.2.1[u5.1.toNat]? with | some c4 => (match (c4.drop 0)[0]? with | some x5 => (match ju 29 x5 with | some l6 => (if (([] : qL).length + l6.length) * 288 <= zh then (if (u5.2.2.2.2.2.2 = u5.2.2.2.1 /\ u5.2.2.2.2.2.1 <= u5.2.2.2.2.2.2) /\ u5.2.2.2.1 * 1 <= u5.2.2.2.2.1.length /\ (u5.2.2.2.1 + 1) * 24 <= zh then (kn ((i64 (u5.1 + 1)), u5.2.1, u5.2.2.1, (u5.2.2.2.1 + 1), ((u5.2.2.2.2.1.take (u5.2.2.2.1 * 1) ++ [AV.list 29 (([] : qL) ++ l6) (some (TOB + u5.2.2.2.2.2.2))]).map datF), u5.2.2.2.2.2.1, (u5.2.2.2.2.2.2 + 1))) else none) else none) | none => none) | none => none) | none => none) else none) | false => (ke (u5.2.2.1, u5.2.2.2.1, (u5.2.2.2.2.1.map datF), u5.2.2.2.2.2)))
abbrev zpa (N : Nat) (x : Int × qL × qL × Nat × qA × Nat × Nat) : Option ((qL × Nat × qA × Nat × Nat)) := (ZL N).L N x
def zan (N : Nat) : FSpec where
 X := qL
 Y := Nat × qA × Nat × Nat
 ash := [[some 1]]
 S := ⟨[[some 1]], [], [], [], []⟩
 bm := true
 pat := fun a b => zk a fun v1 c2 => ji v1 fun c3 => zk c3 fun c4 c5 => jb 1 c4 fun a0 => zQ c5 <| zQ c2 <| zQ b <| some a0
 args := fun x => [(AV.agg [(AV.list 1 x none)])]
 ret := fun y => ⟨(AV.agg [(AV.vs 0 0 y.1 1)]), [], some y.2.1, [], [], [], some (y.2.2.1, y.2.2.2)⟩
 t := fun x α k => (match zpa N (0, x, ([] : qL), 0, ([] : List AV), 0, 0) with | some y7 => (k (y7.2.1, (y7.2.2.1.map datF), y7.2.2.2)) | none => none)
abbrev zgD (N : Nat) (x : qL) : Option (Nat × qA × Nat × Nat) := (zan N).d x
def zdE (N : Nat) : List (Nat × LSpec) := [(5, ZL N)]
def ziD : Code := Tryd.f58.body.getD .skip
theorem zpZ (N : Nat) : Par (ZL N).b := by
 intro x α β kn ke kn' ke' r r' h h1 h2
 revert h
 dsimp only [ZL]
 (repeat' (first | (with_reducible refine ze ?_ ?_) | split)) <;> intro h <;> first | exact h1 _ h | exact h2 _ h | cases h
theorem zjF (N : Nat) : jc (JL qP [23, 24]) (zwt N) zau N (zdE N) 5 ziD (ZL N) := fun x α kn ke => by kernel_rfl
theorem zkc (N : Nat) : ZE qP zau N (zdE N) 5 (zc 5 ziD) :=
 zD (zK qP [23, 24]) (zi _) zl zau N (zdE N) 5 ziD (l := []) (by kernel_rfl) (by kernel_rfl) an (ZL N) rfl (fun s x hc h => by dsimp only [ZL] at h; exact za0 hc h (fun _ _ _ _ => rfl) rfl rfl) (fun _ => rfl) (zjF N) (zpZ N)
theorem zmN (N : Nat) : Zd (zan N).t := by
 intro x α β k k' r r' h h1
 revert h
 dsimp only [zan]
 (repeat' (first | (with_reducible refine ze ?_ ?_) | split)) <;> intro h <;> first | exact h1 _ h | cases h
theorem zlP (N : Nat) : Zf (JL qP [23, 24]) (zwt N) zau (lam N (zdE N)) Tryd.f58 (zan N) := fun x => by kernel_rfl
theorem zt2 (N : Nat) (a : List AV) (b : qL) (x : (zan N).X) (h : (zan N).pat a b = some x) : a = (zan N).args x /\ b = (zan N).bs x := by
 obtain ⟨v1, c2, rfl, g0⟩ := zb (show zk _ _ = some x from h)
 obtain ⟨c3, rfl, g1⟩ := zS g0; clear g0
 obtain ⟨c4, c5, rfl, g2⟩ := zb g1; clear g1
 obtain ⟨a0, rfl, g3⟩ := zq g2; clear g2
 obtain ⟨rfl, g4⟩ := zg g3; clear g3
 obtain ⟨rfl, g5⟩ := zg g4; clear g4
 obtain ⟨rfl, g6⟩ := zg g5; clear g5
 clear h
 cases g6
 exact ⟨rfl, rfl⟩
def zvF (N : Nat) : Ent qP := zx (zK qP [23, 24]) (zi _) zl 58 Tryd.f58 Tryd.func58 rfl zau (lam N (zdE N)) (zm (l := [(5, zc 5 ziD)]) (al (zkc N) an) (by kernel_rfl)) (zan N) (fun _ => ⟨rfl, rfl⟩) (zlP N) (zt2 N) (zmN N)
def j6 : Nat -> Keep × Keep := anF [(2, ⟨[1, 3, 5, 6], [], [3, 5, 6], [], [((6, 0), 1)], [], [], [], true, none, []⟩, ⟨[1, 3, 5, 6, 7], [], [3, 5, 6], [], [((6, 0), 1)], [], [], [], false, none, []⟩), (19, ⟨[1, 3, 5, 6, 8], [], [3, 5, 6, 8], [], [((6, 0), 1)], [], [], [], true, none, []⟩, ⟨[1, 3, 5, 6, 7, 8], [], [3, 5, 6, 8], [], [((6, 0), 1)], [], [], [], false, none, []⟩)] [(100018, ([], [((9, 0), 1)]))]
def zwQ (N : Nat) : GamK := gam (P := qP) [zBD N, zBg N, zyR N, zBP N, zs8 N, zxd N, zAS N, zvF N]
def jh (N : Nat) : LSpec where
 X := Int × qL × RT7 × qL × RT7
 Y := (Int × Int × qL × RT7 × qL × RT7) ⊕ (Int × qL × RT7 × qL × RT7)
 p := fun s => rdS 127 0 [(1, .int .i64), (3, .ptr 3 0), (5, .ptr 5 0), (6, .ptr 6 0), (8, .ptr 8 0)] [(3, .cells [.lst 1]), (5, .row RK7), (6, .cells [.tok 1 6401572864]), (8, .row RK7)] s fun ⟨a0, _, _, _, _, _⟩ ⟨⟨a1, _⟩, a2, ⟨a3, _⟩, a4, _⟩ => (a0, a1, a2, a3, a4)
 st := fun u19 => mkS 127 [(1, (qI u19.1)), (3, (AV.ptr 3 0)), (5, (AV.ptr 5 0)), (6, (AV.ptr 6 0)), (8, (AV.ptr 8 0))] [(3, [(AV.list 1 u19.2.1 none)]), (5, (zM u19.2.2.1)), (6, [(AV.list 1 u19.2.2.2.1 (some 6401572864))]), (8, (zM u19.2.2.2.2))] (j6 19).1.toks 0
 out := fun y => match y with
  | .inl y => (.ret, mkS 127 [(1, (qI y.1)), (3, (AV.ptr 3 0)), (5, (AV.ptr 5 0)), (6, (AV.ptr 6 0)), (7, (qI y.2.1)), (8, (AV.ptr 8 0))] [(3, [(AV.list 1 y.2.2.1 none)]), (5, (zM y.2.2.2.1)), (6, [(AV.list 1 y.2.2.2.2.1 (some 6401572864))]), (8, (zM y.2.2.2.2.2))] (j6 19).2.toks 0)
  | .inr y => (.normal, mkS 127 [(1, (qI y.1)), (3, (AV.ptr 3 0)), (5, (AV.ptr 5 0)), (6, (AV.ptr 6 0)), (8, (AV.ptr 8 0))] [(3, [(AV.list 1 y.2.1 none)]), (5, (zM y.2.2.1)), (6, [(AV.list 1 y.2.2.2.1 (some 6401572864))]), (8, (zM y.2.2.2.2))] (j6 19).2.toks 0)
 b := fun u19 α kn ke => (match (u19.2.2.1.1 == 5) with | true => (match (u19.2.2.1.2.2.2.1 == u19.1) with | true => (ke (.inl (u19.1, 10, u19.2.1, u19.2.2.1, ([] : qL), u19.2.2.2.2))) | false => (match (u19.2.2.1.1 == 6) with | true => (match zh2 N u19.2.2.2.2 with | some y21 => (match y21 with | true => (ke (.inl (u19.1, 10, u19.2.1, u19.2.2.1, ([] : qL), u19.2.2.2.2))) | false => (ke (.inr u19))) | none => none) | false => (ke (.inr u19)))) | false => (match (u19.2.2.1.1 == 6) with | true => (match zh2 N u19.2.2.2.2 with | some y22 => (match y22 with | true => (ke (.inl (u19.1, 10, u19.2.1, u19.2.2.1, ([] : qL), u19.2.2.2.2))) | false => (ke (.inr u19))) | none => none) | false => (ke (.inr u19))))
abbrev zfa (N : Nat) (x : Int × qL × RT7 × qL × RT7) : Option ((Int × Int × qL × RT7 × qL × RT7) ⊕ (Int × qL × RT7 × qL × RT7)) := (jh N).L N x
def zar (N : Nat) : LSpec where
 X := Int × qL × RT7 × qL
 Y := (Int × Int × qL × RT7 × qL) ⊕ (Int × qL × RT7 × qL)
 p := fun s => rdS 127 0 [(1, .int .i64), (3, .ptr 3 0), (5, .ptr 5 0), (6, .ptr 6 0)] [(3, .cells [.lst 1]), (5, .row RK7), (6, .cells [.tok 1 6401572864])] s fun ⟨a0, _, _, _, _⟩ ⟨⟨a1, _⟩, a2, ⟨a3, _⟩, _⟩ => (a0, a1, a2, a3)
 st := fun u2 => mkS 127 [(1, (qI u2.1)), (3, (AV.ptr 3 0)), (5, (AV.ptr 5 0)), (6, (AV.ptr 6 0))] [(3, [(AV.list 1 u2.2.1 none)]), (5, (zM u2.2.2.1)), (6, [(AV.list 1 u2.2.2.2 (some 6401572864))])] (j6 2).1.toks 0
 out := fun y => match y with
  | .inl y => (.ret, mkS 127 [(1, (qI y.1)), (3, (AV.ptr 3 0)), (5, (AV.ptr 5 0)), (6, (AV.ptr 6 0)), (7, (qI y.2.1))] [(3, [(AV.list 1 y.2.2.1 none)]), (5, (zM y.2.2.2.1)), (6, [(AV.list 1 y.2.2.2.2 (some 6401572864))])] (j6 2).2.toks 0)
  | .inr y => (.normal, mkS 127 [(1, (qI y.1)), (3, (AV.ptr 3 0)), (5, (AV.ptr 5 0)), (6, (AV.ptr 6 0))] [(3, [(AV.list 1 y.2.1 none)]), (5, (zM y.2.2.1)), (6, [(AV.list 1 y.2.2.2 (some 6401572864))])] (j6 2).2.toks 0)
 b := fun u2 α kn ke => (match ztl N u2.2.1 with | some y7 => (match (!y7) with | true => (ke (.inl (u2.1, 1, u2.2.1, u2.2.2.1, ([] : qL)))) | false => (match ztS N u2.2.2.1.2.2.1 with | some y8 => (match (!y8) with | true => (ke (.inl (u2.1, 1, u2.2.1, u2.2.2.1, ([] : qL)))) | false => (match (u2.2.2.1.1 == 3) with | true => (match zfL N ([(zB (zy u2.2.2.1))]) with | some y9 => (match (!y9) with | true => (ke (.inl (u2.1, 1, u2.2.1, u2.2.2.1, ([] : qL)))) | false => (ke (.inr u2))) | none => none) | false => (ke (.inr u2)))) | none => none)) | none => none)
abbrev zvh (N : Nat) (x : Int × qL × RT7 × qL) : Option ((Int × Int × qL × RT7 × qL) ⊕ (Int × qL × RT7 × qL)) := (zar N).L N x
def zd4 (N : Nat) : FSpec where
 X := qL × Int × RT7
 Y := qL × Int
 ash := [[some 1], [none], [none, none, none, none, none, none, none, none, none, none, none, none, none, some 9, none, none, none, none, none, none, none, none, none, none, none, none, none, none, none]]
 S := ⟨[[some 1], [none]], [], [], [], []⟩
 pat := fun a b => zk a fun v1 c2 => ji v1 fun c3 => zk c3 fun c4 c5 => jb 1 c4 fun a0 => zQ c5 <| zk c2 fun v6 c7 => Jk .i64 v6 fun a1 => zk c7 fun v8 c9 => zvX RK7 v8 fun a2 => zQ c9 <| zQ b <| some (a0, a1, a2)
 args := fun x => [(AV.agg [(AV.list 1 x.1 none)]), (AV.v (.int .i64 x.2.1)), (AV.agg (zM x.2.2))]
 ret := fun y => ⟨(AV.tup [(AV.agg [(AV.list 1 y.1 none)]), (AV.v (.int .i64 y.2))]), [], none, [], [], [], none⟩
 t := fun x α k => (match zvh N (x.2.1, x.1, x.2.2, ([] : qL)) with | some y10 => (match y10 with | .inl z11 => (k (z11.2.2.2.2, z11.2.1)) | .inr z12 => (match (decide (z12.1 < 0)) with | true => (k (([] : qL), 6)) | false => (match (decide (z12.1 >= (z12.2.1.length : Int))) with | true => (k (([] : qL), 6)) | false => (match (decide (z12.2.2.1.2.2.2.1 < 0)) with | true => (k (([] : qL), 6)) | false => (match (decide (z12.2.2.1.2.2.2.1 >= (z12.2.1.length : Int))) with | true => (k (([] : qL), 6)) | false => (match (decide (z12.2.2.1.2.1 < 0)) with | true => (k (([] : qL), 2)) | false => (match (decide (z12.2.2.1.2.1 > 18014398509481984)) with | true => (k (([] : qL), 2)) | false => (match zs6 N (z12.2.1, z12.2.2.1.2.1) with | some y13 => (match (!y13) with | true => (k (([] : qL), 9)) | false => (if 0 <= z12.1 then (match z12.2.1[z12.1.toNat]? with | some c14 => (match zf1 c14 with | some e15 => (match zht N e15.1 with | some y16 => (match zfa N (z12.1, z12.2.1, z12.2.2.1, z12.2.2.2, y16) with | some y23 => (match y23 with | .inl z24 => (k (z24.2.2.2.2.1, z24.2.1)) | .inr z25 => (if 0 <= z25.1 then (match z25.2.1[z25.1.toNat]? with | some c26 => (match (c26.drop 0)[0]? with | some x27 => (match ju 29 x27 with | some l28 => (match ((l28.length : Int) == 100) with | true => (k (([] : qL), 8)) | false => (match zii N z25.2.2.1.1 with | some y29 => (match y29 with | true => (match zgD N z25.2.1 with | some y30 => (if 0 <= z25.1 /\ z25.1 < (y30.1 : Int) then (match (y30.2.1.map (datJ y30.2.2.1 y30.2.2.2))[(((0 + z25.1.toNat) * 1) + 0)]? with | some c31 => (match c31 with | .list n32 l33 (some q34) => (if n32 = 29 /\ q34 = TOB + (((0 + z25.1.toNat) * 1) + 0) /\ y30.2.2.1 <= (((0 + z25.1.toNat) * 1) + 0) /\ (((0 + z25.1.toNat) * 1) + 0) < y30.2.2.2 then (if (l33.length + [(zM (z25.2.2.1.1, z25.2.2.1.2.1, z25.2.2.1.2.2.1, z25.2.2.1.2.2.2.1, z25.2.2.2.2.2.2.2.2))].length) * 288 <= zh then (if 0 <= z25.1 /\ z25.1 < (y30.1 : Int) then (if (((0 + z25.1.toNat) * 1) + 0) + 1 <= (y30.2.1.map (datJ y30.2.2.1 y30.2.2.2)).length then (if y30.1 * 1 <= (splice (y30.2.1.map (datJ y30.2.2.1 y30.2.2.2)) (((0 + z25.1.toNat) * 1) + 0) [(AV.list 29 (l33 ++ [(zM (z25.2.2.1.1, z25.2.2.1.2.1, z25.2.2.1.2.2.1, z25.2.2.1.2.2.2.1, z25.2.2.2.2.2.2.2.2))]) (some 7872))]).length then (k ((zJ ((splice (y30.2.1.map (datJ y30.2.2.1 y30.2.2.2)) (((0 + z25.1.toNat) * 1) + 0) [(AV.list 29 (l33 ++ [(zM (z25.2.2.1.1, z25.2.2.1.2.1, z25.2.2.1.2.2.1, z25.2.2.1.2.2.2.1, z25.2.2.2.2.2.2.2.2))]) (some 7872))]).take (y30.1 * 1)) 1 y30.1), 0)) else none) else none) else none) else none) else none) | _ => none) | none => none) else none) | none => none) | false => (match zgD N z25.2.1 with | some y35 => (if 0 <= z25.1 /\ z25.1 < (y35.1 : Int) then (match (y35.2.1.map (datJ y35.2.2.1 y35.2.2.2))[(((0 + z25.1.toNat) * 1) + 0)]? with | some c36 => (match c36 with | .list n37 l38 (some q39) => (if n37 = 29 /\ q39 = TOB + (((0 + z25.1.toNat) * 1) + 0) /\ y35.2.2.1 <= (((0 + z25.1.toNat) * 1) + 0) /\ (((0 + z25.1.toNat) * 1) + 0) < y35.2.2.2 then (if (l38.length + [(zM z25.2.2.1)].length) * 288 <= zh then (if 0 <= z25.1 /\ z25.1 < (y35.1 : Int) then (if (((0 + z25.1.toNat) * 1) + 0) + 1 <= (y35.2.1.map (datJ y35.2.2.1 y35.2.2.2)).length then (if y35.1 * 1 <= (splice (y35.2.1.map (datJ y35.2.2.1 y35.2.2.2)) (((0 + z25.1.toNat) * 1) + 0) [(AV.list 29 (l38 ++ [(zM z25.2.2.1)]) (some 7872))]).length then (k ((zJ ((splice (y35.2.1.map (datJ y35.2.2.1 y35.2.2.2)) (((0 + z25.1.toNat) * 1) + 0) [(AV.list 29 (l38 ++ [(zM z25.2.2.1)]) (some 7872))]).take (y35.1 * 1)) 1 y35.1), 0)) else none) else none) else none) else none) else none) | _ => none) | none => none) else none) | none => none)) | none => none)) | none => none) | none => none) | none => none) else none)) | none => none) | none => none) | none => none) | none => none) else none)) | none => none)))))))) | none => none)
abbrev zdV (N : Nat) (x : qL × Int × RT7) : Option (qL × Int) := (zd4 N).d x
def zbz (N : Nat) : List (Nat × LSpec) := [(2, zar N), (19, jh N)]
def zg5 : Code := Tryd.f54.body.getD .skip
theorem zor (N : Nat) : Par (jh N).b := by
 intro x α β kn ke kn' ke' r r' h h1 h2
 revert h
 dsimp only [jh]
 (repeat' (first | (with_reducible refine ze ?_ ?_) | split)) <;> intro h <;> first | exact h1 _ h | exact h2 _ h | cases h
theorem zk2 (N : Nat) : zlv (JL qP [111, 120]) (zwQ N) j6 N (zbz N) 19 zg5 (jh N) := fun x α kn ke => by kernel_rfl
theorem zlc (N : Nat) : ZE qP j6 N (zbz N) 19 (zc 19 zg5) :=
 jU (zK qP [111, 120]) (zi _) zl j6 N (zbz N) 19 zg5 (l := []) (by kernel_rfl) an (jh N) rfl (fun s x hc h => by dsimp only [jh] at h; exact zI hc h (fun _ _ => rfl) rfl rfl rfl) (zk2 N) (zor N)
theorem zuL (N : Nat) : Par (zar N).b := by
 intro x α β kn ke kn' ke' r r' h h1 h2
 revert h
 dsimp only [zar]
 (repeat' (first | (with_reducible refine ze ?_ ?_) | split)) <;> intro h <;> first | exact h1 _ h | exact h2 _ h | cases h
theorem zpE (N : Nat) : zlv (JL qP [111, 120]) (zwQ N) j6 N (zbz N) 2 zg5 (zar N) := fun x α kn ke => by kernel_rfl
theorem zo8 (N : Nat) : ZE qP j6 N (zbz N) 2 (zc 2 zg5) :=
 jU (zK qP [111, 120]) (zi _) zl j6 N (zbz N) 2 zg5 (l := []) (by kernel_rfl) an (zar N) rfl (fun s x hc h => by dsimp only [zar] at h; exact zI hc h (fun _ _ => rfl) rfl rfl rfl) (zpE N) (zuL N)
theorem zuV (N : Nat) : Zd (zd4 N).t := by
 intro x α β k k' r r' h h1
 revert h
 dsimp only [zd4]
 (repeat' (first | (with_reducible refine ze ?_ ?_) | split)) <;> intro h <;> first | exact h1 _ h | cases h
theorem ztd (N : Nat) : Zf (JL qP [111, 120]) (zwQ N) j6 (lam N (zbz N)) Tryd.f54 (zd4 N) := fun x => by kernel_rfl
theorem zxG (N : Nat) (a : List AV) (b : qL) (x : (zd4 N).X) (h : (zd4 N).pat a b = some x) : a = (zd4 N).args x /\ b = (zd4 N).bs x := by
 obtain ⟨v1, c2, rfl, g0⟩ := zb (show zk _ _ = some x from h)
 obtain ⟨c3, rfl, g1⟩ := zS g0; clear g0
 obtain ⟨c4, c5, rfl, g2⟩ := zb g1; clear g1
 obtain ⟨a0, rfl, g3⟩ := zq g2; clear g2
 obtain ⟨rfl, g4⟩ := zg g3; clear g3
 obtain ⟨v6, c7, rfl, g5⟩ := zb g4; clear g4
 obtain ⟨a1, rfl, g6⟩ := zG g5; clear g5
 obtain ⟨v8, c9, rfl, g7⟩ := zb g6; clear g6
 obtain ⟨a2, rfl, g8⟩ := zda g7; clear g7
 obtain ⟨rfl, g9⟩ := zg g8; clear g8
 obtain ⟨rfl, g10⟩ := zg g9; clear g9
 clear h
 cases g10
 exact ⟨rfl, rfl⟩
def ztx (N : Nat) : Ent qP := zx (zK qP [111, 120]) (zi _) zl 54 Tryd.f54 Tryd.func54 rfl j6 (lam N (zbz N)) (zm (l := [(2, zc 2 zg5), (19, zc 19 zg5)]) (al (zo8 N) (al (zlc N) an)) (by kernel_rfl)) (zd4 N) (fun _ => ⟨rfl, rfl⟩) (ztd N) (zxG N) (zuV N)
def zvH : Nat -> Keep × Keep := anL []
def zDh (N : Nat) : GamK := gam (P := qP) []
def zla (N : Nat) : FSpec where
 X := RT7
 Y := Bool
 ash := [[none, none, none, none, none, none, none, none, none, none, none, none, none, some 9, none, none, none, none, none, none, none, none, none, none, none, none, none, none, none]]
 S := ⟨[[none]], [], [], [], []⟩
 pat := fun a b => rdA [.agg RK7] [] a b fun ⟨a0, _⟩ _ => a0
 args := fun x => [(AV.agg (zM x))]
 ret := fun y => ⟨(AV.v (.bool y)), [], none, [], [], [], none⟩
 t := fun x α k => (match (x.1 == 1) with | true => (k true) | false => (match (x.1 == 3) with | true => (k true) | false => (k (x.1 == 6))))
abbrev zxk (N : Nat) (x : RT7) : Option (Bool) := (zla N).d x
theorem zs5 (N : Nat) : Zd (zla N).t := by
 intro x α β k k' r r' h h1
 revert h
 dsimp only [zla]
 (repeat' (first | (with_reducible refine ze ?_ ?_) | split)) <;> intro h <;> first | exact h1 _ h | cases h
theorem zuR (N : Nat) : Zf (zn qP) (zDh N) zvH (lam N []) Tryd.f17 (zla N) := fun x => by kernel_rfl
def zDI (N : Nat) : Ent qP := zx (zd qP) (zi _) zl 17 Tryd.f17 Tryd.func17 rfl zvH (lam N []) (zm (l := []) an (by kernel_rfl)) (zla N) (fun _ => ⟨rfl, rfl⟩) (zuR N) (fun _ _ _ h => zu h (fun _ _ => rfl) (fun _ _ => rfl)) (zs5 N)
def ZG : Nat -> Keep × Keep := anL [(5, ⟨[2, 6], [], [2], [(1, 25)], [], [(5, 1)], [], [], false, none, []⟩, ⟨[2], [], [2], [(1, 25)], [], [(5, 1)], [], [], false, none, []⟩), (18, ⟨[2, 5, 8], [], [2, 1000005], [(1, 25)], [], [], [], [1000005], false, none, []⟩, ⟨[5], [], [1000005], [], [], [], [], [1000005], false, none, []⟩), (26, ⟨[2, 5, 8, 9], [], [2, 1000005], [(1, 25)], [], [], [], [1000005], false, none, []⟩, ⟨[2, 5, 8], [], [2, 1000005], [(1, 25)], [], [], [], [1000005], false, none, []⟩)]
def zju (N : Nat) : GamK := gam (P := qP) [zs8 N, zCB N, zwo N, zCd N]
def zO (N : Nat) : LSpec where
 X := qL × Nat × Int × Int × qL × qA
 Y := (qL × Nat × Int × qL × qA)
 p := fun s => rdS 81 0 [(1, .lst 25), (2, .ptr 2 0), (5, .vs0 1000005 1), (8, .int .i64), (9, .int .i64)] [(2, .cells [.lst 1]), (1000005, .tt)] s fun ⟨a0, _, a1, a2, a3, _⟩ ⟨⟨a4, _⟩, a5, _⟩ => (a0, a1, a2, a3, a4, a5)
 st := fun u26 => mkS 81 [(1, (AV.list 25 u26.1 none)), (2, (AV.ptr 2 0)), (5, (AV.vs 1000005 0 u26.2.1 1)), (8, (qI u26.2.2.1)), (9, (qI u26.2.2.2.1))] [(2, [(AV.list 1 u26.2.2.2.2.1 none)]), (1000005, u26.2.2.2.2.2)] (ZG 26).1.toks 0
 out := fun y => (.exit 4, mkS 81 [(1, (AV.list 25 y.1 none)), (2, (AV.ptr 2 0)), (5, (AV.vs 1000005 0 y.2.1 1)), (8, (qI y.2.2.1))] [(2, [(AV.list 1 y.2.2.2.1 none)]), (1000005, y.2.2.2.2)] (ZG 26).2.toks 0)
 b := fun u26 α kn ke => (match (decide (u26.2.2.2.1 < (u26.1.length : Int))) with | true => (if 0 <= u26.2.2.1 /\ u26.2.2.1 < (u26.2.1 : Int) then (match u26.2.2.2.2.2[((0 + u26.2.2.1.toNat) * 1)]? with | some x23 => (match x23 with | .v (.int q25 n24) => (if q25 = .i64 then (match (decide (n24 < 0)) with | true => (match zgB N (u26.2.1, u26.2.2.2.1, (u26.2.2.2.2.2.map dat0)) with | some y26 => (match (!y26.1) with | true => (if 0 <= u26.2.2.1 then (match u26.2.2.2.2.1[u26.2.2.1.toNat]? with | some c27 => (match zf1 c27 with | some e28 => (match zht N e28.1 with | some y29 => (if 0 <= u26.2.2.2.1 then (match u26.1[u26.2.2.2.1.toNat]? with | some c30 => (match ((c30.drop 9).drop 0)[0]? with | some x31 => (match ju 9 x31 with | some l32 => (match zqQ N (y29.2.2.2.2.2.2.2.2.2.2.2.2.2.1, l32) with | some y33 => (match y33 with | true => (if 0 <= u26.2.2.1 /\ u26.2.2.1 < (u26.2.1 : Int) then (if ((0 + u26.2.2.1.toNat) * 1) + 1 <= y26.2.length then (kn (u26.1, u26.2.1, u26.2.2.1, (i64 (u26.2.2.2.1 + 1)), u26.2.2.2.2.1, ((splice y26.2 ((0 + u26.2.2.1.toNat) * 1) [(AV.v (.int .i64 u26.2.2.2.1))]).map dat0))) else none) else none) | false => (kn (u26.1, u26.2.1, u26.2.2.1, (i64 (u26.2.2.2.1 + 1)), u26.2.2.2.2.1, (y26.2.map dat0)))) | none => none) | none => none) | none => none) | none => none) else none) | none => none) | none => none) | none => none) else none) | false => (kn (u26.1, u26.2.1, u26.2.2.1, (i64 (u26.2.2.2.1 + 1)), u26.2.2.2.2.1, (y26.2.map dat0)))) | none => none) | false => (ke (u26.1, u26.2.1, u26.2.2.1, u26.2.2.2.2.1, (u26.2.2.2.2.2.map dat0)))) else none) | _ => none) | none => none) else none) | false => (ke (u26.1, u26.2.1, u26.2.2.1, u26.2.2.2.2.1, (u26.2.2.2.2.2.map dat0))))
abbrev zjg (N : Nat) (x : qL × Nat × Int × Int × qL × qA) : Option ((qL × Nat × Int × qL × qA)) := (zO N).L N x
def Zr (N : Nat) : LSpec where
 X := qL × Nat × Int × qL × qA
 Y := (Nat × qA)
 p := fun s => rdS 81 0 [(1, .lst 25), (2, .ptr 2 0), (5, .vs0 1000005 1), (8, .int .i64)] [(2, .cells [.lst 1]), (1000005, .tt)] s fun ⟨a0, _, a1, a2, _⟩ ⟨⟨a3, _⟩, a4, _⟩ => (a0, a1, a2, a3, a4)
 st := fun u18 => mkS 81 [(1, (AV.list 25 u18.1 none)), (2, (AV.ptr 2 0)), (5, (AV.vs 1000005 0 u18.2.1 1)), (8, (qI u18.2.2.1))] [(2, [(AV.list 1 u18.2.2.2.1 none)]), (1000005, u18.2.2.2.2)] (ZG 18).1.toks 0
 out := fun y => (.exit 2, mkS 81 [(5, (AV.vs 1000005 0 y.1 1))] [(1000005, y.2)] (ZG 18).2.toks 0)
 b := fun u18 α kn ke => (match (decide (u18.2.2.1 < (u18.2.2.2.1.length : Int))) with | true => (match zjg N (u18.1, u18.2.1, u18.2.2.1, 0, u18.2.2.2.1, (u18.2.2.2.2.map dat0)) with | some y35 => (kn (y35.1, y35.2.1, (i64 (y35.2.2.1 + 1)), y35.2.2.2.1, (y35.2.2.2.2.map dat0))) | none => none) | false => (ke (u18.2.1, (u18.2.2.2.2.map dat0))))
abbrev zjq (N : Nat) (x : qL × Nat × Int × qL × qA) : Option ((Nat × qA)) := (Zr N).L N x
def Zp (N : Nat) : LSpec where
 X := Nat × qL × Int × qL × qA
 Y := (Nat × qL × qL × qA)
 p := fun s => rdS 81 0 [(5, .vs0 1000005 1), (1, .lst 25), (2, .ptr 2 0), (6, .int .i64)] [(2, .cells [.lst 1]), (1000005, .tt)] s fun ⟨a0, a1, _, a2, _⟩ ⟨⟨a3, _⟩, a4, _⟩ => (a0, a1, a2, a3, a4)
 st := fun u5 => mkS 81 [(5, (AV.vs 1000005 0 u5.1 1)), (1, (AV.list 25 u5.2.1 none)), (2, (AV.ptr 2 0)), (6, (qI u5.2.2.1))] [(2, [(AV.list 1 u5.2.2.2.1 none)]), (1000005, u5.2.2.2.2)] (ZG 5).1.toks 0
 out := fun y => (.exit 0, mkS 81 [(5, (AV.vs 1000005 0 y.1 1)), (1, (AV.list 25 y.2.1 none)), (2, (AV.ptr 2 0))] [(2, [(AV.list 1 y.2.2.1 none)]), (1000005, y.2.2.2)] (ZG 5).2.toks 0)
 b := fun u5 α kn ke => (match (decide (u5.2.2.1 < (u5.2.2.2.1.length : Int))) with | true => (if 0 <= u5.2.2.1 then (match u5.2.2.2.1[u5.2.2.1.toNat]? with | some c6 => (match zf1 c6 with | some e7 => (match zht N e7.1 with | some y8 => (match zuZ N (u5.2.1, (zo2 y8)) with | some y9 => (match zgB N (u5.1, y9, (u5.2.2.2.2.map dat0)) with | some y10 => (match y10.1 with | true => (if u5.1 * 1 <= y10.2.length /\ (u5.1 + [[(AV.v (.int .i64 (-1)))]].length) * 8 <= zh then (kn ((u5.1 + [[(AV.v (.int .i64 (-1)))]].length), u5.2.1, (i64 (u5.2.2.1 + 1)), u5.2.2.2.1, ((y10.2.take (u5.1 * 1) ++ [[(AV.v (.int .i64 (-1)))]].flatten).map dat0))) else none) | false => (if u5.1 * 1 <= y10.2.length /\ (u5.1 + [[(AV.v (.int .i64 y9))]].length) * 8 <= zh then (kn ((u5.1 + [[(AV.v (.int .i64 y9))]].length), u5.2.1, (i64 (u5.2.2.1 + 1)), u5.2.2.2.1, ((y10.2.take (u5.1 * 1) ++ [[(AV.v (.int .i64 y9))]].flatten).map dat0))) else none)) | none => none) | none => none) | none => none) | none => none) | none => none) else none) | false => (ke (u5.1, u5.2.1, u5.2.2.2.1, (u5.2.2.2.2.map dat0))))
abbrev zod (N : Nat) (x : Nat × qL × Int × qL × qA) : Option ((Nat × qL × qL × qA)) := (Zp N).L N x
def zam (N : Nat) : FSpec where
 X := qL × qL
 Y := Nat × qA
 ash := [[some 1], [some 25]]
 S := ⟨[[some 1000001]], [], [], [], []⟩
 bm := true
 pat := fun a b => zk a fun v1 c2 => ji v1 fun c3 => zk c3 fun c4 c5 => jb 1 c4 fun a0 => zQ c5 <| zk c2 fun v6 c7 => jb 25 v6 fun a1 => zQ c7 <| zQ b <| some (a0, a1)
 args := fun x => [(AV.agg [(AV.list 1 x.1 none)]), (AV.list 25 x.2 none)]
 ret := fun y => ⟨(AV.vs 0 0 y.1 1), [], some y.2, [], [], [], none⟩
 t := fun x α k => (match zod N (0, x.2, 0, x.1, ([] : List AV)) with | some y11 => (match zjq N (y11.2.1, y11.1, 0, y11.2.2.1, (y11.2.2.2.map dat0)) with | some y36 => (k (y36.1, (y36.2.map dat0))) | none => none) | none => none)
abbrev znj (N : Nat) (x : qL × qL) : Option (Nat × qA) := (zam N).d x
def jX (N : Nat) : List (Nat × LSpec) := [(5, Zp N), (18, Zr N), (26, zO N)]
def Jn : Code := Tryd.f59.body.getD .skip
theorem zjG (N : Nat) : Par (zO N).b := by
 intro x α β kn ke kn' ke' r r' h h1 h2
 revert h
 dsimp only [zO]
 (repeat' (first | (with_reducible refine ze ?_ ?_) | split)) <;> intro h <;> first | exact h1 _ h | exact h2 _ h | cases h
theorem zh7 (N : Nat) : jc (JL qP [33]) (zju N) ZG N (jX N) 26 Jn (zO N) := fun x α kn ke => by kernel_rfl
theorem zdo (N : Nat) : ZE qP ZG N (jX N) 26 (zc 26 Jn) :=
 zD (zK qP [33]) (zi _) zl ZG N (jX N) 26 Jn (l := []) (by kernel_rfl) (by kernel_rfl) an (zO N) rfl (fun s x hc h => by dsimp only [zO] at h; exact zI hc h (fun _ _ => rfl) rfl rfl rfl) (fun _ => rfl) (zh7 N) (zjG N)
theorem zjM (N : Nat) : Par (Zr N).b := by
 intro x α β kn ke kn' ke' r r' h h1 h2
 revert h
 dsimp only [Zr]
 (repeat' (first | (with_reducible refine ze ?_ ?_) | split)) <;> intro h <;> first | exact h1 _ h | exact h2 _ h | cases h
theorem zhP (N : Nat) : jc (JL qP [33]) (zju N) ZG N (jX N) 18 Jn (Zr N) := fun x α kn ke => by kernel_rfl
theorem zhx (N : Nat) : ZE qP ZG N (jX N) 18 (zc 18 Jn) :=
 zD (zK qP [33]) (zi _) zl ZG N (jX N) 18 Jn (l := [(26, zc 26 Jn)]) (by kernel_rfl) (by kernel_rfl) (al (zdo N) an) (Zr N) rfl (fun s x hc h => by dsimp only [Zr] at h; exact zI hc h (fun _ _ => rfl) rfl rfl rfl) (fun _ => rfl) (zhP N) (zjM N)
theorem zlN (N : Nat) : Par (Zp N).b := by
 intro x α β kn ke kn' ke' r r' h h1 h2
 revert h
 dsimp only [Zp]
 (repeat' (first | (with_reducible refine ze ?_ ?_) | split)) <;> intro h <;> first | exact h1 _ h | exact h2 _ h | cases h
theorem zkW (N : Nat) : jc (JL qP [33]) (zju N) ZG N (jX N) 5 Jn (Zp N) := fun x α kn ke => by kernel_rfl
theorem zk4 (N : Nat) : ZE qP ZG N (jX N) 5 (zc 5 Jn) :=
 zD (zK qP [33]) (zi _) zl ZG N (jX N) 5 Jn (l := []) (by kernel_rfl) (by kernel_rfl) an (Zp N) rfl (fun s x hc h => by dsimp only [Zp] at h; exact zI hc h (fun _ _ => rfl) rfl rfl rfl) (fun _ => rfl) (zkW N) (zlN N)
theorem zph (N : Nat) : Zd (zam N).t := by
 intro x α β k k' r r' h h1
 revert h
 dsimp only [zam]
 (repeat' (first | (with_reducible refine ze ?_ ?_) | split)) <;> intro h <;> first | exact h1 _ h | cases h
theorem zpT (N : Nat) : Zf (JL qP [33]) (zju N) ZG (lam N (jX N)) Tryd.f59 (zam N) := fun x => by kernel_rfl
theorem zu3 (N : Nat) (a : List AV) (b : qL) (x : (zam N).X) (h : (zam N).pat a b = some x) : a = (zam N).args x /\ b = (zam N).bs x := by
 obtain ⟨v1, c2, rfl, g0⟩ := zb (show zk _ _ = some x from h)
 obtain ⟨c3, rfl, g1⟩ := zS g0; clear g0
 obtain ⟨c4, c5, rfl, g2⟩ := zb g1; clear g1
 obtain ⟨a0, rfl, g3⟩ := zq g2; clear g2
 obtain ⟨rfl, g4⟩ := zg g3; clear g3
 obtain ⟨v6, c7, rfl, g5⟩ := zb g4; clear g4
 obtain ⟨a1, rfl, g6⟩ := zq g5; clear g5
 obtain ⟨rfl, g7⟩ := zg g6; clear g6
 obtain ⟨rfl, g8⟩ := zg g7; clear g7
 clear h
 cases g8
 exact ⟨rfl, rfl⟩
def zA1 (N : Nat) : Ent qP := zx (zK qP [33]) (zi _) zl 59 Tryd.f59 Tryd.func59 rfl ZG (lam N (jX N)) (zm (l := [(5, zc 5 Jn), (18, zc 18 Jn), (26, zc 26 Jn)]) (al (zk4 N) (al (zhx N) (al (zdo N) an))) (by kernel_rfl)) (zam N) (fun _ => ⟨rfl, rfl⟩) (zpT N) (zu3 N) (zph N)
def jd : Nat -> Keep × Keep := anF [(18, ⟨[2, 3, 6, 9, 10, 12], [(11, 1)], [3, 6, 9, 40, 43], [(1, 25)], [((6, 0), 1)], [], [], [40, 43], false, some 40, []⟩, ⟨[2, 6, 8, 9, 10], [(11, 1)], [6, 9, 40, 43], [(1, 25), (7, 1)], [((6, 0), 1)], [], [], [40, 43], false, some 40, []⟩), (30, ⟨[2, 3, 6, 9, 10, 12, 13, 14, 15, 16, 68], [(11, 1)], [3, 6, 9, 13, 14, 40, 43], [(1, 25)], [((6, 0), 1)], [], [], [40, 43], true, some 40, []⟩, ⟨[2, 3, 6, 9, 10, 12, 13, 14, 15], [(11, 1)], [3, 6, 9, 13, 14, 40, 43], [(1, 25)], [((6, 0), 1)], [], [], [40, 43], false, some 40, []⟩), (42, ⟨[2, 6, 9, 10, 17], [(11, 1)], [6, 9, 43], [(1, 25)], [((6, 0), 1)], [], [((9, 0), 1)], [43], false, none, []⟩, ⟨[6, 9], [(11, 1)], [6, 9], [], [((6, 0), 1)], [], [((9, 0), 1)], [], false, none, []⟩)] [(100032, ([], [((9, 0), 1)]))]
def zsm (N : Nat) : GamK := gam (P := qP) [zBD N, zyR N, zBP N, zvF N, zA1 N, zs8 N, zDI N, zyS N, zxd N, zwo N]
def Zs (N : Nat) : LSpec where
 X := qL × qL × Int × Nat × Int × qL × Nat × qA × qA
 Y := (qL × qL × Nat × qA)
 p := fun s => rdS 155 0 [(11, .tok 1 1280000704), (1, .lst 25), (2, .int .i64), (6, .ptr 6 0), (9, .ptr 9 0), (10, .vs0 43 1), (17, .int .i64)] [(6, .cells [.tok 1 6401572864]), (9, .cells [.vs0 2036864 1]), (43, .tt), (2036864, .tt)] s fun ⟨a0, a1, a2, _, _, a3, a4, _⟩ ⟨⟨a5, _⟩, ⟨a6, _⟩, a7, a8, _⟩ => (a0, a1, a2, a3, a4, a5, a6, a7, a8)
 st := fun u42 => mkS 155 [(11, (AV.list 1 u42.1 (some 1280000704))), (1, (AV.list 25 u42.2.1 none)), (2, (qI u42.2.2.1)), (6, (AV.ptr 6 0)), (9, (AV.ptr 9 0)), (10, (AV.vs 43 0 u42.2.2.2.1 1)), (17, (qI u42.2.2.2.2.1))] [(6, [(AV.list 1 u42.2.2.2.2.2.1 (some 6401572864))]), (9, [(AV.vs 2036864 0 u42.2.2.2.2.2.2.1 1)]), (43, u42.2.2.2.2.2.2.2.1), (2036864, u42.2.2.2.2.2.2.2.2)] (jd 42).1.toks 0
 out := fun y => (.exit 2, mkS 155 [(11, (AV.list 1 y.1 (some 1280000704))), (6, (AV.ptr 6 0)), (9, (AV.ptr 9 0))] [(6, [(AV.list 1 y.2.1 (some 6401572864))]), (9, [(AV.vs 2036864 0 y.2.2.1 1)]), (2036864, y.2.2.2)] (jd 42).2.toks 0)
 b := fun u42 α kn ke => (match (decide (u42.2.2.2.2.1 < (u42.2.1.length : Int))) with | true => (match zgB N (u42.2.2.2.1, u42.2.2.2.2.1, (u42.2.2.2.2.2.2.2.1.map dat0)) with | some y58 => (match (!y58.1) with | true => (if (u42.1.length + [[(AV.v (.int .i64 ((u42.2.2.2.2.2.2.1 : Nat) : Int)))]].length) * 8 <= zh then (if 0 <= u42.2.2.2.2.1 then (match u42.2.1[u42.2.2.2.2.1.toNat]? with | some c59 => (match zgT c59 with | some e60 => (if u42.2.2.2.2.2.2.1 * 1 <= u42.2.2.2.2.2.2.2.2.length /\ (u42.2.2.2.2.2.2.1 + [[(AV.list 29 [(zM (1, u42.2.2.1, (⟨#[]⟩ : ByteArray), 0, e60))] none)]].length) * 24 <= zh then (kn ((u42.1 ++ [[(AV.v (.int .i64 ((u42.2.2.2.2.2.2.1 : Nat) : Int)))]]), u42.2.1, u42.2.2.1, u42.2.2.2.1, (i64 (u42.2.2.2.2.1 + 1)), u42.2.2.2.2.2.1, (u42.2.2.2.2.2.2.1 + [[(AV.list 29 [(zM (1, u42.2.2.1, (⟨#[]⟩ : ByteArray), 0, e60))] none)]].length), (y58.2.map dat0), ((u42.2.2.2.2.2.2.2.2.take (u42.2.2.2.2.2.2.1 * 1) ++ [[(AV.list 29 [(zM (1, u42.2.2.1, (⟨#[]⟩ : ByteArray), 0, e60))] none)]].flatten).map dat0))) else none) | none => none) | none => none) else none) else none) | false => (kn (u42.1, u42.2.1, u42.2.2.1, u42.2.2.2.1, (i64 (u42.2.2.2.2.1 + 1)), u42.2.2.2.2.2.1, u42.2.2.2.2.2.2.1, (y58.2.map dat0), (u42.2.2.2.2.2.2.2.2.map dat0)))) | none => none) | false => (ke (u42.1, u42.2.2.2.2.2.1, u42.2.2.2.2.2.2.1, (u42.2.2.2.2.2.2.2.2.map dat0))))
abbrev znK (N : Nat) (x : qL × qL × Int × Nat × Int × qL × Nat × qA × qA) : Option ((qL × qL × Nat × qA)) := (Zs N).L N x
def jw (N : Nat) : LSpec where
 X := qL × qL × Int × Nat × Int × Bool × Int × Bool × qL × qL × Nat × RT7 × RT7 × qA × qA × Nat × Nat
 Y := (qL × qL × Int × Nat × Int × Bool × qL × qL × Nat × RT7 × RT7 × qA × qA × Nat × Nat)
 p := fun s => rdF 155 0 40 [(11, .tok 1 1280000704), (1, .lst 25), (2, .int .i64), (3, .ptr 3 0), (6, .ptr 6 0), (9, .ptr 9 0), (10, .vs0 43 1), (12, .int .i64), (13, .ptr 13 0), (14, .ptr 14 0), (15, .bool), (16, .int .i64), (68, .bool)] [(3, .cells [.lst 1]), (6, .cells [.tok 1 6401572864]), (9, .cells [.vs0 40 1]), (13, .row RK7), (14, .row RK7), (40, .tt), (43, .tt)] s fun ⟨a0, a1, a2, _, _, _, a3, a4, _, _, a5, a6, a7, _⟩ ⟨⟨a8, _⟩, ⟨a9, _⟩, ⟨a10, _⟩, a11, a12, a13, a14, _⟩ a15 a16 => (a0, a1, a2, a3, a4, a5, a6, a7, a8, a9, a10, a11, a12, a13, a14, a15, a16)
 st := fun u30 => mkF 155 [(11, (AV.list 1 u30.1 (some 1280000704))), (1, (AV.list 25 u30.2.1 none)), (2, (qI u30.2.2.1)), (3, (AV.ptr 3 0)), (6, (AV.ptr 6 0)), (9, (AV.ptr 9 0)), (10, (AV.vs 43 0 u30.2.2.2.1 1)), (12, (qI u30.2.2.2.2.1)), (13, (AV.ptr 13 0)), (14, (AV.ptr 14 0)), (15, (AV.v (.bool u30.2.2.2.2.2.1))), (16, (qI u30.2.2.2.2.2.2.1)), (68, (AV.v (.bool u30.2.2.2.2.2.2.2.1)))] [(3, [(AV.list 1 u30.2.2.2.2.2.2.2.2.1 none)]), (6, [(AV.list 1 u30.2.2.2.2.2.2.2.2.2.1 (some 6401572864))]), (9, [(AV.vs 40 0 u30.2.2.2.2.2.2.2.2.2.2.1 1)]), (13, (zM u30.2.2.2.2.2.2.2.2.2.2.2.1)), (14, (zM u30.2.2.2.2.2.2.2.2.2.2.2.2.1)), (40, u30.2.2.2.2.2.2.2.2.2.2.2.2.2.1), (43, u30.2.2.2.2.2.2.2.2.2.2.2.2.2.2.1)] (jd 30).1.toks 0 (some (40, u30.2.2.2.2.2.2.2.2.2.2.2.2.2.2.2.1, u30.2.2.2.2.2.2.2.2.2.2.2.2.2.2.2.2))
 out := fun y => (.normal, mkF 155 [(11, (AV.list 1 y.1 (some 1280000704))), (1, (AV.list 25 y.2.1 none)), (2, (qI y.2.2.1)), (3, (AV.ptr 3 0)), (6, (AV.ptr 6 0)), (9, (AV.ptr 9 0)), (10, (AV.vs 43 0 y.2.2.2.1 1)), (12, (qI y.2.2.2.2.1)), (13, (AV.ptr 13 0)), (14, (AV.ptr 14 0)), (15, (AV.v (.bool y.2.2.2.2.2.1)))] [(3, [(AV.list 1 y.2.2.2.2.2.2.1 none)]), (6, [(AV.list 1 y.2.2.2.2.2.2.2.1 (some 6401572864))]), (9, [(AV.vs 40 0 y.2.2.2.2.2.2.2.2.1 1)]), (13, (zM y.2.2.2.2.2.2.2.2.2.1)), (14, (zM y.2.2.2.2.2.2.2.2.2.2.1)), (40, y.2.2.2.2.2.2.2.2.2.2.2.1), (43, y.2.2.2.2.2.2.2.2.2.2.2.2.1)] (jd 30).2.toks 0 (some (40, y.2.2.2.2.2.2.2.2.2.2.2.2.2.1, y.2.2.2.2.2.2.2.2.2.2.2.2.2.2)))
 b := fun u30 α kn ke => (match u30.2.2.2.2.2.2.2.1 with | true => (if 0 <= u30.2.2.2.2.2.2.1 then (match u30.2.1[u30.2.2.2.2.2.2.1.toNat]? with | some c24 => (match zgT c24 with | some e25 => (match zxk N u30.2.2.2.2.2.2.2.2.2.2.2.1 with | some y26 => (match y26 with | true => (if 0 <= u30.2.2.2.2.2.2.1 then (match u30.2.1[u30.2.2.2.2.2.2.1.toNat]? with | some c27 => (match zgT c27 with | some e28 => (match zcM N ((zy u30.2.2.2.2.2.2.2.2.2.2.2.1), e28) with | some y29 => (ke (u30.1, u30.2.1, u30.2.2.1, u30.2.2.2.1, u30.2.2.2.2.1, y29, u30.2.2.2.2.2.2.2.2.1, u30.2.2.2.2.2.2.2.2.2.1, u30.2.2.2.2.2.2.2.2.2.2.1, u30.2.2.2.2.2.2.2.2.2.2.2.1, (1, u30.2.2.2.2.2.2.2.2.2.2.2.2.1.2.1, u30.2.2.2.2.2.2.2.2.2.2.2.2.1.2.2.1, u30.2.2.2.2.2.2.2.2.2.2.2.2.1.2.2.2.1, e25), (u30.2.2.2.2.2.2.2.2.2.2.2.2.2.1.map datF), (u30.2.2.2.2.2.2.2.2.2.2.2.2.2.2.1.map dat0), u30.2.2.2.2.2.2.2.2.2.2.2.2.2.2.2)) | none => none) | none => none) | none => none) else none) | false => (ke (u30.1, u30.2.1, u30.2.2.1, u30.2.2.2.1, u30.2.2.2.2.1, false, u30.2.2.2.2.2.2.2.2.1, u30.2.2.2.2.2.2.2.2.2.1, u30.2.2.2.2.2.2.2.2.2.2.1, u30.2.2.2.2.2.2.2.2.2.2.2.1, (1, u30.2.2.2.2.2.2.2.2.2.2.2.2.1.2.1, u30.2.2.2.2.2.2.2.2.2.2.2.2.1.2.2.1, u30.2.2.2.2.2.2.2.2.2.2.2.2.1.2.2.2.1, e25), (u30.2.2.2.2.2.2.2.2.2.2.2.2.2.1.map datF), (u30.2.2.2.2.2.2.2.2.2.2.2.2.2.2.1.map dat0), u30.2.2.2.2.2.2.2.2.2.2.2.2.2.2.2))) | none => none) | none => none) | none => none) else none) | false => (ke (u30.1, u30.2.1, u30.2.2.1, u30.2.2.2.1, u30.2.2.2.2.1, u30.2.2.2.2.2.1, u30.2.2.2.2.2.2.2.2.1, u30.2.2.2.2.2.2.2.2.2.1, u30.2.2.2.2.2.2.2.2.2.2.1, u30.2.2.2.2.2.2.2.2.2.2.2.1, u30.2.2.2.2.2.2.2.2.2.2.2.2.1, (u30.2.2.2.2.2.2.2.2.2.2.2.2.2.1.map datF), (u30.2.2.2.2.2.2.2.2.2.2.2.2.2.2.1.map dat0), u30.2.2.2.2.2.2.2.2.2.2.2.2.2.2.2)))
abbrev zdn (N : Nat) (x : qL × qL × Int × Nat × Int × Bool × Int × Bool × qL × qL × Nat × RT7 × RT7 × qA × qA × Nat × Nat) : Option ((qL × qL × Int × Nat × Int × Bool × qL × qL × Nat × RT7 × RT7 × qA × qA × Nat × Nat)) := (jw N).L N x
def Zt (N : Nat) : LSpec where
 X := qL × qL × Int × Nat × Int × qL × qL × Nat × qA × qA × Nat × Nat
 Y := (qL × qL × qL × Int × Int × Nat × qL × Nat × qA × qA × Nat × Nat) ⊕ (qL × qL × Int × Nat × qL × Nat × qA × qA × Nat × Nat)
 p := fun s => rdF 155 0 40 [(11, .tok 1 1280000704), (1, .lst 25), (2, .int .i64), (3, .ptr 3 0), (6, .ptr 6 0), (9, .ptr 9 0), (10, .vs0 43 1), (12, .int .i64)] [(3, .cells [.lst 1]), (6, .cells [.tok 1 6401572864]), (9, .cells [.vs0 40 1]), (40, .tt), (43, .tt)] s fun ⟨a0, a1, a2, _, _, _, a3, a4, _⟩ ⟨⟨a5, _⟩, ⟨a6, _⟩, ⟨a7, _⟩, a8, a9, _⟩ a10 a11 => (a0, a1, a2, a3, a4, a5, a6, a7, a8, a9, a10, a11)
 st := fun u18 => mkF 155 [(11, (AV.list 1 u18.1 (some 1280000704))), (1, (AV.list 25 u18.2.1 none)), (2, (qI u18.2.2.1)), (3, (AV.ptr 3 0)), (6, (AV.ptr 6 0)), (9, (AV.ptr 9 0)), (10, (AV.vs 43 0 u18.2.2.2.1 1)), (12, (qI u18.2.2.2.2.1))] [(3, [(AV.list 1 u18.2.2.2.2.2.1 none)]), (6, [(AV.list 1 u18.2.2.2.2.2.2.1 (some 6401572864))]), (9, [(AV.vs 40 0 u18.2.2.2.2.2.2.2.1 1)]), (40, u18.2.2.2.2.2.2.2.2.1), (43, u18.2.2.2.2.2.2.2.2.2.1)] (jd 18).1.toks 0 (some (40, u18.2.2.2.2.2.2.2.2.2.2.1, u18.2.2.2.2.2.2.2.2.2.2.2))
 out := fun y => match y with
  | .inl y => (.ret, mkF 155 [(11, (AV.list 1 y.1 (some 1280000704))), (1, (AV.list 25 y.2.1 none)), (7, (AV.list 1 y.2.2.1 none)), (2, (qI y.2.2.2.1)), (6, (AV.ptr 6 0)), (8, (qI y.2.2.2.2.1)), (9, (AV.ptr 9 0)), (10, (AV.vs 43 0 y.2.2.2.2.2.1 1))] [(6, [(AV.list 1 y.2.2.2.2.2.2.1 (some 6401572864))]), (9, [(AV.vs 40 0 y.2.2.2.2.2.2.2.1 1)]), (40, y.2.2.2.2.2.2.2.2.1), (43, y.2.2.2.2.2.2.2.2.2.1)] (jd 18).2.toks 0 (some (40, y.2.2.2.2.2.2.2.2.2.2.1, y.2.2.2.2.2.2.2.2.2.2.2)))
  | .inr y => (.exit 0, mkF 155 [(11, (AV.list 1 y.1 (some 1280000704))), (1, (AV.list 25 y.2.1 none)), (2, (qI y.2.2.1)), (6, (AV.ptr 6 0)), (9, (AV.ptr 9 0)), (10, (AV.vs 43 0 y.2.2.2.1 1))] [(6, [(AV.list 1 y.2.2.2.2.1 (some 6401572864))]), (9, [(AV.vs 40 0 y.2.2.2.2.2.1 1)]), (40, y.2.2.2.2.2.2.1), (43, y.2.2.2.2.2.2.2.1)] (jd 18).2.toks 0 (some (40, y.2.2.2.2.2.2.2.2.1, y.2.2.2.2.2.2.2.2.2)))
 b := fun u18 α kn ke => (match (decide (u18.2.2.2.2.1 < ((u18.2.2.2.1 : Nat) : Int))) with | true => (if 0 <= u18.2.2.2.2.1 then (match u18.2.2.2.2.2.1[u18.2.2.2.2.1.toNat]? with | some c38 => (match zf1 c38 with | some e39 => (match zht N e39.1 with | some y40 => (if 0 <= u18.2.2.2.2.1 /\ u18.2.2.2.2.1 < (u18.2.2.2.1 : Int) then (match u18.2.2.2.2.2.2.2.2.2.1[((0 + u18.2.2.2.2.1.toNat) * 1)]? with | some x41 => (match x41 with | .v (.int q43 n42) => (if q43 = .i64 then (match zdn N (u18.1, u18.2.1, u18.2.2.1, u18.2.2.2.1, u18.2.2.2.2.1, (y40.1 == 2), n42, (decide (n42 >= 0)), u18.2.2.2.2.2.1, u18.2.2.2.2.2.2.1, u18.2.2.2.2.2.2.2.1, y40, (2, u18.2.2.1, (⟨#[]⟩ : ByteArray), 0, y40.2.2.2.2), (u18.2.2.2.2.2.2.2.2.1.map datF), (u18.2.2.2.2.2.2.2.2.2.1.map dat0), u18.2.2.2.2.2.2.2.2.2.2) with | some y44 => (match zh2 N y44.2.2.2.2.2.2.2.2.2.1 with | some y45 => (match y45 with | true => (match (!y44.2.2.2.2.2.1) with | true => (if 0 <= y44.2.2.2.2.1 /\ y44.2.2.2.2.1 < (y44.2.2.2.2.2.2.2.2.1 : Int) then (match y44.2.2.2.2.2.2.2.2.2.2.2.1[(((0 + y44.2.2.2.2.1.toNat) * 1) + 0)]? with | some c46 => (match c46 with | .list n47 l48 (some q49) => (if n47 = 29 /\ q49 = TOB + (((0 + y44.2.2.2.2.1.toNat) * 1) + 0) /\ y44.2.2.2.2.2.2.2.2.2.2.2.2.2.1 <= (((0 + y44.2.2.2.2.1.toNat) * 1) + 0) /\ (((0 + y44.2.2.2.2.1.toNat) * 1) + 0) < y44.2.2.2.2.2.2.2.2.2.2.2.2.2.2 then (if (l48.length + [(zM y44.2.2.2.2.2.2.2.2.2.2.1)].length) * 288 <= zh then (if 0 <= y44.2.2.2.2.1 /\ y44.2.2.2.2.1 < (y44.2.2.2.2.2.2.2.2.1 : Int) then (if (((0 + y44.2.2.2.2.1.toNat) * 1) + 0) + 1 <= y44.2.2.2.2.2.2.2.2.2.2.2.1.length then (if (y44.1.length + [[(AV.v (.int .i64 y44.2.2.2.2.1))]].length) * 8 <= zh then (if 0 <= y44.2.2.2.2.1 /\ y44.2.2.2.2.1 < (y44.2.2.2.2.2.2.2.2.1 : Int) then (match (splice y44.2.2.2.2.2.2.2.2.2.2.2.1 (((0 + y44.2.2.2.2.1.toNat) * 1) + 0) [(AV.list 29 (l48 ++ [(zM y44.2.2.2.2.2.2.2.2.2.2.1)]) (some 6592))])[(((0 + y44.2.2.2.2.1.toNat) * 1) + 0)]? with | some x50 => (match ju 29 x50 with | some l51 => (match (decide ((l51.length : Int) > 100)) with | true => (ke (.inl ((y44.1 ++ [[(AV.v (.int .i64 y44.2.2.2.2.1))]]), y44.2.1, ([] : qL), y44.2.2.1, 8, y44.2.2.2.1, ([] : qL), y44.2.2.2.2.2.2.2.2.1, ((splice y44.2.2.2.2.2.2.2.2.2.2.2.1 (((0 + y44.2.2.2.2.1.toNat) * 1) + 0) [(AV.list 29 (l48 ++ [(zM y44.2.2.2.2.2.2.2.2.2.2.1)]) (some 6592))]).map datF), (y44.2.2.2.2.2.2.2.2.2.2.2.2.1.map dat0), ((((0 + y44.2.2.2.2.1.toNat) * 1) + 0) + 1), y44.2.2.2.2.2.2.2.2.2.2.2.2.2.2))) | false => (kn ((y44.1 ++ [[(AV.v (.int .i64 y44.2.2.2.2.1))]]), y44.2.1, y44.2.2.1, y44.2.2.2.1, (i64 (y44.2.2.2.2.1 + 1)), y44.2.2.2.2.2.2.1, y44.2.2.2.2.2.2.2.1, y44.2.2.2.2.2.2.2.2.1, ((splice y44.2.2.2.2.2.2.2.2.2.2.2.1 (((0 + y44.2.2.2.2.1.toNat) * 1) + 0) [(AV.list 29 (l48 ++ [(zM y44.2.2.2.2.2.2.2.2.2.2.1)]) (some 6592))]).map datF), (y44.2.2.2.2.2.2.2.2.2.2.2.2.1.map dat0), ((((0 + y44.2.2.2.2.1.toNat) * 1) + 0) + 1), y44.2.2.2.2.2.2.2.2.2.2.2.2.2.2))) | none => none) | none => none) else none) else none) else none) else none) else none) else none) | _ => none) | none => none) else none) | false => (kn (y44.1, y44.2.1, y44.2.2.1, y44.2.2.2.1, (i64 (y44.2.2.2.2.1 + 1)), y44.2.2.2.2.2.2.1, y44.2.2.2.2.2.2.2.1, y44.2.2.2.2.2.2.2.2.1, (y44.2.2.2.2.2.2.2.2.2.2.2.1.map datF), (y44.2.2.2.2.2.2.2.2.2.2.2.2.1.map dat0), y44.2.2.2.2.2.2.2.2.2.2.2.2.2))) | false => (kn (y44.1, y44.2.1, y44.2.2.1, y44.2.2.2.1, (i64 (y44.2.2.2.2.1 + 1)), y44.2.2.2.2.2.2.1, y44.2.2.2.2.2.2.2.1, y44.2.2.2.2.2.2.2.2.1, (y44.2.2.2.2.2.2.2.2.2.2.2.1.map datF), (y44.2.2.2.2.2.2.2.2.2.2.2.2.1.map dat0), y44.2.2.2.2.2.2.2.2.2.2.2.2.2))) | none => none) | none => none) else none) | _ => none) | none => none) else none) | none => none) | none => none) | none => none) else none) | false => (ke (.inr (u18.1, u18.2.1, u18.2.2.1, u18.2.2.2.1, u18.2.2.2.2.2.2.1, u18.2.2.2.2.2.2.2.1, (u18.2.2.2.2.2.2.2.2.1.map datF), (u18.2.2.2.2.2.2.2.2.2.1.map dat0), u18.2.2.2.2.2.2.2.2.2.2))))
abbrev zlF (N : Nat) (x : qL × qL × Int × Nat × Int × qL × qL × Nat × qA × qA × Nat × Nat) : Option ((qL × qL × qL × Int × Int × Nat × qL × Nat × qA × qA × Nat × Nat) ⊕ (qL × qL × Int × Nat × qL × Nat × qA × qA × Nat × Nat)) := (Zt N).L N x
def zd0 (N : Nat) : FSpec where
 X := qL × qL × Int
 Y := qL × qL × Int
 ash := [[some 1], [some 25], [none]]
 S := ⟨[[some 1], [some 1], [none]], [], [], [], []⟩
 pat := fun a b => zk a fun v1 c2 => ji v1 fun c3 => zk c3 fun c4 c5 => jb 1 c4 fun a0 => zQ c5 <| zk c2 fun v6 c7 => jb 25 v6 fun a1 => zk c7 fun v8 c9 => Jk .i64 v8 fun a2 => zQ c9 <| zQ b <| some (a0, a1, a2)
 args := fun x => [(AV.agg [(AV.list 1 x.1 none)]), (AV.list 25 x.2.1 none), (AV.v (.int .i64 x.2.2))]
 ret := fun y => ⟨(AV.tup [(AV.agg [(AV.list 1 y.1 none)]), (AV.list 1 y.2.1 none), (AV.v (.int .i64 y.2.2))]), [], none, [], [], [], none⟩
 t := fun x α k => (match ztl N x.1 with | some y1 => (match (!y1) with | true => (k (([] : qL), ([] : qL), 1)) | false => (match zfL N x.2.1 with | some y2 => (match (!y2) with | true => (k (([] : qL), ([] : qL), 1)) | false => (match (decide (x.2.2 < 0)) with | true => (k (([] : qL), ([] : qL), 2)) | false => (match (decide (x.2.2 > 18014398509481984)) with | true => (k (([] : qL), ([] : qL), 2)) | false => (match zs6 N (x.1, x.2.2) with | some y3 => (match (!y3) with | true => (k (([] : qL), ([] : qL), 9)) | false => (match zgD N x.1 with | some y4 => (match znj N (x.1, x.2.1) with | some y5 => (match zlF N (([] : qL), x.2.1, x.2.2, y5.1, 0, x.1, ([] : qL), y4.1, ((y4.2.1.map (datJ y4.2.2.1 y4.2.2.2)).map datF), ((y5.2.map dat0).map dat0), y4.2.2) with | some y52 => (match y52 with | .inl z53 => (k (z53.2.2.2.2.2.2.1, z53.2.2.1, z53.2.2.2.2.1)) | .inr z54 => (match znK N (z54.1, z54.2.1, z54.2.2.1, z54.2.2.2.1, 0, z54.2.2.2.2.1, z54.2.2.2.2.2.1, (z54.2.2.2.2.2.2.2.1.map dat0), (z54.2.2.2.2.2.2.1.map dat0)) with | some y61 => (match (decide (((y61.2.2.1 : Nat) : Int) > 500)) with | true => (k (([] : qL), ([] : qL), 8)) | false => (if y61.2.2.1 * 1 <= y61.2.2.2.length then (k ((zJ (y61.2.2.2.take (y61.2.2.1 * 1)) 1 y61.2.2.1), y61.1, 0)) else none)) | none => none)) | none => none) | none => none) | none => none)) | none => none)))) | none => none)) | none => none)
abbrev zsI (N : Nat) (x : qL × qL × Int) : Option (qL × qL × Int) := (zd0 N).d x
def JT (N : Nat) : List (Nat × LSpec) := [(18, Zt N), (30, jw N), (42, Zs N)]
def zbi : Code := Tryd.f31.body.getD .skip
theorem zpG (N : Nat) : Par (Zs N).b := by
 intro x α β kn ke kn' ke' r r' h h1 h2
 revert h
 dsimp only [Zs]
 (repeat' (first | (with_reducible refine ze ?_ ?_) | split)) <;> intro h <;> first | exact h1 _ h | exact h2 _ h | cases h
theorem zjJ (N : Nat) : jc (JL qP [40, 43, 100, 146]) (zsm N) jd N (JT N) 42 zbi (Zs N) := fun x α kn ke => by kernel_rfl
theorem zjY (N : Nat) : ZE qP jd N (JT N) 42 (zc 42 zbi) :=
 zD (zK qP [40, 43, 100, 146]) (zi _) zl jd N (JT N) 42 zbi (l := []) (by kernel_rfl) (by kernel_rfl) an (Zs N) rfl (fun s x hc h => by dsimp only [Zs] at h; exact zI hc h (fun _ _ => rfl) rfl rfl rfl) (fun _ => rfl) (zjJ N) (zpG N)
theorem zn6 (N : Nat) : Par (jw N).b := by
 intro x α β kn ke kn' ke' r r' h h1 h2
 revert h
 dsimp only [jw]
 (repeat' (first | (with_reducible refine ze ?_ ?_) | split)) <;> intro h <;> first | exact h1 _ h | exact h2 _ h | cases h
theorem zk3 (N : Nat) : zlv (JL qP [40, 43, 100, 146]) (zsm N) jd N (JT N) 30 zbi (jw N) := fun x α kn ke => by kernel_rfl
theorem zeD (N : Nat) : ZE qP jd N (JT N) 30 (zc 30 zbi) :=
 jU (zK qP [40, 43, 100, 146]) (zi _) zl jd N (JT N) 30 zbi (l := []) (by kernel_rfl) an (jw N) rfl (fun s x hc h => by dsimp only [jw] at h; exact za0 hc h (fun _ _ _ _ => rfl) rfl rfl) (zk3 N) (zn6 N)
theorem zp0 (N : Nat) : Par (Zt N).b := by
 intro x α β kn ke kn' ke' r r' h h1 h2
 revert h
 dsimp only [Zt]
 (repeat' (first | (with_reducible refine ze ?_ ?_) | split)) <;> intro h <;> first | exact h1 _ h | exact h2 _ h | cases h
theorem zky (N : Nat) : jc (JL qP [40, 43, 100, 146]) (zsm N) jd N (JT N) 18 zbi (Zt N) := fun x α kn ke => by kernel_rfl
theorem zld (N : Nat) : ZE qP jd N (JT N) 18 (zc 18 zbi) :=
 zD (zK qP [40, 43, 100, 146]) (zi _) zl jd N (JT N) 18 zbi (l := [(30, zc 30 zbi)]) (by kernel_rfl) (by kernel_rfl) (al (zeD N) an) (Zt N) rfl (fun s x hc h => by dsimp only [Zt] at h; exact za0 hc h (fun _ _ _ _ => rfl) rfl rfl) (fun _ => rfl) (zky N) (zp0 N)
theorem zut (N : Nat) : Zd (zd0 N).t := by
 intro x α β k k' r r' h h1
 revert h
 dsimp only [zd0]
 (repeat' (first | (with_reducible refine ze ?_ ?_) | split)) <;> intro h <;> first | exact h1 _ h | cases h
theorem ztV (N : Nat) : Zf (JL qP [40, 43, 100, 146]) (zsm N) jd (lam N (JT N)) Tryd.f31 (zd0 N) := fun x => by kernel_rfl
theorem zxM (N : Nat) (a : List AV) (b : qL) (x : (zd0 N).X) (h : (zd0 N).pat a b = some x) : a = (zd0 N).args x /\ b = (zd0 N).bs x := by
 obtain ⟨v1, c2, rfl, g0⟩ := zb (show zk _ _ = some x from h)
 obtain ⟨c3, rfl, g1⟩ := zS g0; clear g0
 obtain ⟨c4, c5, rfl, g2⟩ := zb g1; clear g1
 obtain ⟨a0, rfl, g3⟩ := zq g2; clear g2
 obtain ⟨rfl, g4⟩ := zg g3; clear g3
 obtain ⟨v6, c7, rfl, g5⟩ := zb g4; clear g4
 obtain ⟨a1, rfl, g6⟩ := zq g5; clear g5
 obtain ⟨v8, c9, rfl, g7⟩ := zb g6; clear g6
 obtain ⟨a2, rfl, g8⟩ := zG g7; clear g7
 obtain ⟨rfl, g9⟩ := zg g8; clear g8
 obtain ⟨rfl, g10⟩ := zg g9; clear g9
 clear h
 cases g10
 exact ⟨rfl, rfl⟩
def zDP (N : Nat) : Ent qP := zx (zK qP [40, 43, 100, 146]) (zi _) zl 31 Tryd.f31 Tryd.func31 rfl jd (lam N (JT N)) (zm (l := [(18, zc 18 zbi), (30, zc 30 zbi), (42, zc 42 zbi)]) (al (zld N) (al (zeD N) (al (zjY N) an))) (by kernel_rfl)) (zd0 N) (fun _ => ⟨rfl, rfl⟩) (ztV N) (zxM N) (zut N)
end
end Go.Proofs.YthdgnfcbehcplaaDoor
end
section
namespace Go.Proofs.YthdgnfcbehcplaaDoor
noncomputable section
open Go.RowKit
set_option maxRecDepth 4000
set_option maxHeartbeats 4000000
def zvI : Nat -> Keep × Keep := anL []
def zCl (N : Nat) : GamK := gam (P := qP) [zA0 N]
def zlj (N : Nat) : FSpec where
 X := RT0
 Y := Bool
 ash := [[none, none, none, none, none, none, none, none, none, some 9, none, none, none, none, none, none, none, none, none, none, none, none, none, none, none]]
 S := ⟨[[none]], [], [], [], []⟩
 pat := fun a b => rdA [.agg RK0] [] a b fun ⟨a0, _⟩ _ => a0
 args := fun x => [(AV.agg (zB x))]
 ret := fun y => ⟨(AV.v (.bool y)), [], none, [], [], [], none⟩
 t := fun x α k => (match zib N ([(zB x)]) with | some y1 => (k y1) | none => none)
abbrev zny (N : Nat) (x : RT0) : Option (Bool) := (zlj N).d x
theorem ztq (N : Nat) : Zd (zlj N).t := by
 intro x α β k k' r r' h h1
 revert h
 dsimp only [zlj]
 (repeat' (first | (with_reducible refine ze ?_ ?_) | split)) <;> intro h <;> first | exact h1 _ h | cases h
theorem zrN (N : Nat) : Zf (zn qP) (zCl N) zvI (lam N []) Tryd.f72 (zlj N) := fun x => by kernel_rfl
def zBx (N : Nat) : Ent qP := zx (zd qP) (zi _) zl 72 Tryd.f72 Tryd.func72 rfl zvI (lam N []) (zm (l := []) an (by kernel_rfl)) (zlj N) (fun _ => ⟨rfl, rfl⟩) (zrN N) (fun _ _ _ h => zu h (fun _ _ => rfl) (fun _ _ => rfl)) (ztq N)
def zbL : Nat -> Keep × Keep := anL [(4, qK [0, 5, 6] [] [], qK [0, 2] [] [])]
def zzM (N : Nat) : GamK := gam (P := qP) []
def zcJ (N : Nat) : LSpec where
 X := ByteArray × Int × Int
 Y := (ByteArray × Bool) ⊕ (ByteArray)
 p := fun s => rdS 28 0 [(0, .str), (5, .int .i64), (6, .int .i64)] [] s fun ⟨a0, a1, a2, _⟩ _ => (a0, a1, a2)
 st := fun u4 => mkS 28 [(0, (AV.v (.string u4.1))), (5, (qI u4.2.1)), (6, (qI u4.2.2))] [] (zbL 4).1.toks 0
 out := fun y => match y with
  | .inl y => (.ret, mkS 28 [(0, (AV.v (.string y.1))), (2, (AV.v (.bool y.2)))] [] (zbL 4).2.toks 0)
  | .inr y => (.exit 0, mkS 28 [(0, (AV.v (.string y)))] [] (zbL 4).2.toks 0)
 b := fun u4 α kn ke => (match (decide (u4.2.2 < u4.2.1)) with | true => (if 0 <= u4.2.2 then (match u4.1[u4.2.2.toNat]? with | some c1 => (match (decide ((c1.toNat : Int) < 97)) with | true => (ke (.inl (u4.1, false))) | false => (if 0 <= u4.2.2 then (match u4.1[u4.2.2.toNat]? with | some c2 => (match (decide ((c2.toNat : Int) > 122)) with | true => (ke (.inl (u4.1, false))) | false => (kn (u4.1, u4.2.1, (i64 (u4.2.2 + 1))))) | none => none) else none)) | none => none) else none) | false => (ke (.inr u4.1)))
abbrev zzJ (N : Nat) (x : ByteArray × Int × Int) : Option ((ByteArray × Bool) ⊕ (ByteArray)) := (zcJ N).L N x
def zmg (N : Nat) : FSpec where
 X := ByteArray
 Y := Bool
 ash := [[none]]
 S := ⟨[[none]], [], [], [], []⟩
 pat := fun a b => rdA [.str] [] a b fun ⟨a0, _⟩ _ => a0
 args := fun x => [(AV.v (.string x))]
 ret := fun y => ⟨(AV.v (.bool y)), [], none, [], [], [], none⟩
 t := fun x α k => (match zzJ N (x, (x.size : Int), 0) with | some y3 => (match y3 with | .inl z4 => (k z4.2) | .inr z5 => (match (decide ((z5.size : Int) >= 1)) with | true => (k (decide ((z5.size : Int) <= 16))) | false => (k false))) | none => none)
abbrev zuN (N : Nat) (x : ByteArray) : Option (Bool) := (zmg N).d x
def zg2 (N : Nat) : List (Nat × LSpec) := [(4, zcJ N)]
def zqk : Code := Tryd.f73.body.getD .skip
theorem zrM (N : Nat) : Par (zcJ N).b := by
 intro x α β kn ke kn' ke' r r' h h1 h2
 revert h
 dsimp only [zcJ]
 (repeat' (first | (with_reducible refine ze ?_ ?_) | split)) <;> intro h <;> first | exact h1 _ h | exact h2 _ h | cases h
theorem znT (N : Nat) : jc (zn qP) (zzM N) zbL N (zg2 N) 4 zqk (zcJ N) := fun x α kn ke => by kernel_rfl
theorem zm2 (N : Nat) : ZE qP zbL N (zg2 N) 4 (zc 4 zqk) :=
 zD (zd qP) (zi _) zl zbL N (zg2 N) 4 zqk (l := []) (by kernel_rfl) (by kernel_rfl) an (zcJ N) rfl (fun s x hc h => by dsimp only [zcJ] at h; exact zI hc h (fun _ _ => rfl) rfl rfl rfl) (fun _ => rfl) (znT N) (zrM N)
theorem zqr (N : Nat) : Zd (zmg N).t := by
 intro x α β k k' r r' h h1
 revert h
 dsimp only [zmg]
 (repeat' (first | (with_reducible refine ze ?_ ?_) | split)) <;> intro h <;> first | exact h1 _ h | cases h
theorem zup (N : Nat) : Zf (zn qP) (zzM N) zbL (lam N (zg2 N)) Tryd.f73 (zmg N) := fun x => by kernel_rfl
def zAb (N : Nat) : Ent qP := zx (zd qP) (zi _) zl 73 Tryd.f73 Tryd.func73 rfl zbL (lam N (zg2 N)) (zm (l := [(4, zc 4 zqk)]) (al (zm2 N) an) (by kernel_rfl)) (zmg N) (fun _ => ⟨rfl, rfl⟩) (zup N) (fun _ _ _ h => zu h (fun _ _ => rfl) (fun _ _ => rfl)) (zqr N)
def zvm : Nat -> Keep × Keep := anL []
def zCQ (N : Nat) : GamK := gam (P := qP) [zBx N, zAb N]
def zkP (N : Nat) : FSpec where
 X := RT7 × Int × Int
 Y := Bool
 ash := [[none, none, none, none, none, none, none, none, none, none, none, none, none, some 9, none, none, none, none, none, none, none, none, none, none, none, none, none, none, none], [none], [none]]
 S := ⟨[[none]], [], [], [], []⟩
 pat := fun a b => rdA [.agg RK7, .int .i64, .int .i64] [] a b fun ⟨a0, a1, a2, _⟩ _ => (a0, a1, a2)
 args := fun x => [(AV.agg (zM x.1)), (AV.v (.int .i64 x.2.1)), (AV.v (.int .i64 x.2.2))]
 ret := fun y => ⟨(AV.v (.bool y)), [], none, [], [], [], none⟩
 t := fun x α k => (match (decide (x.1.1 < 1)) with | true => (k false) | false => (match (decide (x.1.1 > 6)) with | true => (k false) | false => (match (decide (x.1.2.1 < 0)) with | true => (k false) | false => (match (decide (x.1.2.1 > 18014398509481984)) with | true => (k false) | false => (match zny N (zy x.1) with | some y1 => (match (!y1) with | true => (k false) | false => (if 0 <= x.1.1 /\ x.1.1 < 7 then (match ((gtab3.map AV.v).drop (x.1.1.toNat * 1))[0]? with | some x2 => (match x2 with | .v (.bool b3) => (match b3 with | true => (match (!(x.1.2.2.1.toList == (⟨#[]⟩ : ByteArray).toList)) with | true => (k false) | false => (if 0 <= x.1.1 /\ x.1.1 < 7 then (match ((gtab3.map AV.v).drop (x.1.1.toNat * 1))[0]? with | some x4 => (match x4 with | .v (.bool b5) => (match (!b5) with | true => (match zuN N x.1.2.2.1 with | some y6 => (match (!y6) with | true => (k false) | false => (match (x.1.1 == 5) with | true => (match (decide (x.1.2.2.2.1 >= 0)) with | true => (match (decide (x.1.2.2.2.1 < x.2.2)) with | true => (k (x.1.2.2.2.1 != x.2.1)) | false => (k false)) | false => (k false)) | false => (k (x.1.2.2.2.1 == 0)))) | none => none) | false => (match (x.1.1 == 5) with | true => (match (decide (x.1.2.2.2.1 >= 0)) with | true => (match (decide (x.1.2.2.2.1 < x.2.2)) with | true => (k (x.1.2.2.2.1 != x.2.1)) | false => (k false)) | false => (k false)) | false => (k (x.1.2.2.2.1 == 0)))) | _ => none) | none => none) else none)) | false => (if 0 <= x.1.1 /\ x.1.1 < 7 then (match ((gtab3.map AV.v).drop (x.1.1.toNat * 1))[0]? with | some x7 => (match x7 with | .v (.bool b8) => (match (!b8) with | true => (match zuN N x.1.2.2.1 with | some y9 => (match (!y9) with | true => (k false) | false => (match (x.1.1 == 5) with | true => (match (decide (x.1.2.2.2.1 >= 0)) with | true => (match (decide (x.1.2.2.2.1 < x.2.2)) with | true => (k (x.1.2.2.2.1 != x.2.1)) | false => (k false)) | false => (k false)) | false => (k (x.1.2.2.2.1 == 0)))) | none => none) | false => (match (x.1.1 == 5) with | true => (match (decide (x.1.2.2.2.1 >= 0)) with | true => (match (decide (x.1.2.2.2.1 < x.2.2)) with | true => (k (x.1.2.2.2.1 != x.2.1)) | false => (k false)) | false => (k false)) | false => (k (x.1.2.2.2.1 == 0)))) | _ => none) | none => none) else none)) | _ => none) | none => none) else none)) | none => none)))))
abbrev zxn (N : Nat) (x : RT7 × Int × Int) : Option (Bool) := (zkP N).d x
theorem zq1 (N : Nat) : Zd (zkP N).t := by
 intro x α β k k' r r' h h1
 revert h
 dsimp only [zkP]
 (repeat' (first | (with_reducible refine ze ?_ ?_) | split)) <;> intro h <;> first | exact h1 _ h | cases h
theorem zsn (N : Nat) : Zf (zn qP) (zCQ N) zvm (lam N []) Tryd.f48 (zkP N) := fun x => by kernel_rfl
def zCO (N : Nat) : Ent qP := zx (zd qP) (zi _) zl 48 Tryd.f48 Tryd.func48 rfl zvm (lam N []) (zm (l := []) an (by kernel_rfl)) (zkP N) (fun _ => ⟨rfl, rfl⟩) (zsn N) (fun _ _ _ h => zu h (fun _ _ => rfl) (fun _ _ => rfl)) (zq1 N)
def zwv : Nat -> Keep × Keep := anL []
def zDC (N : Nat) : GamK := gam (P := qP) [zCC N]
def zkK (N : Nat) : FSpec where
 X := RT0 × RT0
 Y := Bool
 ash := [[none, none, none, none, none, none, none, none, none, some 9, none, none, none, none, none, none, none, none, none, none, none, none, none, none, none], [none, none, none, none, none, none, none, none, none, some 9, none, none, none, none, none, none, none, none, none, none, none, none, none, none, none]]
 S := ⟨[[none]], [], [], [], []⟩
 pat := fun a b => rdA [.agg RK0, .agg RK0] [] a b fun ⟨a0, a1, _⟩ _ => (a0, a1)
 args := fun x => [(AV.agg (zB x.1)), (AV.agg (zB x.2))]
 ret := fun y => ⟨(AV.v (.bool y)), [], none, [], [], [], none⟩
 t := fun x α k => (match zAF N ([(zB x.1)], [(zB x.2)]) with | some y1 => (k y1) | none => none)
abbrev zkG (N : Nat) (x : RT0 × RT0) : Option (Bool) := (zkK N).d x
theorem zqo (N : Nat) : Zd (zkK N).t := by
 intro x α β k k' r r' h h1
 revert h
 dsimp only [zkK]
 (repeat' (first | (with_reducible refine ze ?_ ?_) | split)) <;> intro h <;> first | exact h1 _ h | cases h
theorem zuj (N : Nat) : Zf (zn qP) (zDC N) zwv (lam N []) Tryd.f38 (zkK N) := fun x => by kernel_rfl
def zAG (N : Nat) : Ent qP := zx (zd qP) (zi _) zl 38 Tryd.f38 Tryd.func38 rfl zwv (lam N []) (zm (l := []) an (by kernel_rfl)) (zkK N) (fun _ => ⟨rfl, rfl⟩) (zuj N) (fun _ _ _ h => zu h (fun _ _ => rfl) (fun _ _ => rfl)) (zqo N)
def Jc : Nat -> Keep × Keep := anL [(8, ⟨[1, 14, 15], [], [1], [(13, 1)], [], [], [], [], false, none, []⟩, qK [2] [] []), (21, ⟨[1, 3, 4, 14, 15, 40, 41], [], [1, 4], [(13, 1), (39, 29)], [], [], [], [], false, none, []⟩, ⟨[1, 2, 14, 15], [], [1], [(13, 1)], [], [], [], [], false, none, []⟩)]
def zyY (N : Nat) : GamK := gam (P := qP) [zCO N, zAG N]
def ZO (N : Nat) : LSpec where
 X := qL × qL × Int × Int × Int × Int × Int × qL × qL
 Y := (qL × Bool × Int × Int × qL) ⊕ (qL × Int × Int × qL)
 p := fun s => rdS 92 0 [(13, .lst 1), (39, .lst 29), (1, .ptr 1 0), (3, .int .i64), (4, .ptr 4 0), (14, .int .i64), (15, .int .i64), (40, .int .i64), (41, .int .i64)] [(1, .cells [.lst 1]), (4, .cells [.lst 29])] s fun ⟨a0, a1, _, a2, _, a3, a4, a5, a6, _⟩ ⟨⟨a7, _⟩, ⟨a8, _⟩, _⟩ => (a0, a1, a2, a3, a4, a5, a6, a7, a8)
 st := fun u21 => mkS 92 [(13, (AV.list 1 u21.1 none)), (39, (AV.list 29 u21.2.1 none)), (1, (AV.ptr 1 0)), (3, (qI u21.2.2.1)), (4, (AV.ptr 4 0)), (14, (qI u21.2.2.2.1)), (15, (qI u21.2.2.2.2.1)), (40, (qI u21.2.2.2.2.2.1)), (41, (qI u21.2.2.2.2.2.2.1))] [(1, [(AV.list 1 u21.2.2.2.2.2.2.2.1 none)]), (4, [(AV.list 29 u21.2.2.2.2.2.2.2.2 none)])] (Jc 21).1.toks 0
 out := fun y => match y with
  | .inl y => (.ret, mkS 92 [(13, (AV.list 1 y.1 none)), (1, (AV.ptr 1 0)), (2, (AV.v (.bool y.2.1))), (14, (qI y.2.2.1)), (15, (qI y.2.2.2.1))] [(1, [(AV.list 1 y.2.2.2.2 none)])] (Jc 21).2.toks 0)
  | .inr y => (.exit 2, mkS 92 [(13, (AV.list 1 y.1 none)), (1, (AV.ptr 1 0)), (14, (qI y.2.1)), (15, (qI y.2.2.1))] [(1, [(AV.list 1 y.2.2.2 none)])] (Jc 21).2.toks 0)
 b := fun u21 α kn ke => (match (decide (u21.2.2.2.2.2.2.1 < u21.2.2.2.2.2.1)) with | true => (if 0 <= u21.2.2.2.2.2.2.1 then (match u21.2.1[u21.2.2.2.2.2.2.1.toNat]? with | some c17 => (match zk9 c17 with | some e18 => (match zxn N (e18, u21.2.2.1, (u21.2.2.2.2.2.2.2.1.length : Int)) with | some y19 => (match (!y19) with | true => (ke (.inl (u21.1, false, u21.2.2.2.1, u21.2.2.2.2.1, u21.2.2.2.2.2.2.2.1))) | false => (match (u21.2.2.2.2.2.2.1 == 0) with | true => (kn (u21.1, u21.2.1, u21.2.2.1, u21.2.2.2.1, u21.2.2.2.2.1, u21.2.2.2.2.2.1, (i64 (u21.2.2.2.2.2.2.1 + 1)), u21.2.2.2.2.2.2.2)) | false => (if 0 <= (i64 (u21.2.2.2.2.2.2.1 - 1)) then (match u21.2.2.2.2.2.2.2.2[(i64 (u21.2.2.2.2.2.2.1 - 1)).toNat]? with | some c20 => (match zk9 c20 with | some e21 => (match (decide (e18.2.1 < e21.2.1)) with | true => (ke (.inl (u21.1, false, u21.2.2.2.1, u21.2.2.2.2.1, u21.2.2.2.2.2.2.2.1))) | false => (if 0 <= e18.1 /\ e18.1 < 7 then (if 0 <= e21.1 /\ e21.1 < 7 then (match (((gtab1.map AV.v).drop (e18.1.toNat * 7)).drop (e21.1.toNat * 1))[0]? with | some x22 => (match x22 with | .v (.bool b23) => (match (!b23) with | true => (ke (.inl (u21.1, false, u21.2.2.2.1, u21.2.2.2.2.1, u21.2.2.2.2.2.2.2.1))) | false => (if 0 <= e18.1 /\ e18.1 < 7 then (match ((gtab2.map AV.v).drop (e18.1.toNat * 1))[0]? with | some x24 => (match x24 with | .v (.bool b25) => (match b25 with | true => (match zkG N ((zy e18), (zy e21)) with | some y26 => (match (!y26) with | true => (ke (.inl (u21.1, false, u21.2.2.2.1, u21.2.2.2.2.1, u21.2.2.2.2.2.2.2.1))) | false => (kn (u21.1, u21.2.1, u21.2.2.1, u21.2.2.2.1, u21.2.2.2.2.1, u21.2.2.2.2.2.1, (i64 (u21.2.2.2.2.2.2.1 + 1)), u21.2.2.2.2.2.2.2))) | none => none) | false => (kn (u21.1, u21.2.1, u21.2.2.1, u21.2.2.2.1, u21.2.2.2.2.1, u21.2.2.2.2.2.1, (i64 (u21.2.2.2.2.2.2.1 + 1)), u21.2.2.2.2.2.2.2))) | _ => none) | none => none) else none)) | _ => none) | none => none) else none) else none)) | none => none) | none => none) else none))) | none => none) | none => none) | none => none) else none) | false => (ke (.inr (u21.1, u21.2.2.2.1, u21.2.2.2.2.1, u21.2.2.2.2.2.2.2.1))))
abbrev znH (N : Nat) (x : qL × qL × Int × Int × Int × Int × Int × qL × qL) : Option ((qL × Bool × Int × Int × qL) ⊕ (qL × Int × Int × qL)) := (ZO N).L N x
def jF (N : Nat) : LSpec where
 X := qL × Int × Int × qL
 Y := (Bool) ⊕ (Unit)
 p := fun s => rdS 92 0 [(13, .lst 1), (1, .ptr 1 0), (14, .int .i64), (15, .int .i64)] [(1, .cells [.lst 1])] s fun ⟨a0, _, a1, a2, _⟩ ⟨⟨a3, _⟩, _⟩ => (a0, a1, a2, a3)
 st := fun u8 => mkS 92 [(13, (AV.list 1 u8.1 none)), (1, (AV.ptr 1 0)), (14, (qI u8.2.1)), (15, (qI u8.2.2.1))] [(1, [(AV.list 1 u8.2.2.2 none)])] (Jc 8).1.toks 0
 out := fun y => match y with
  | .inl y => (.ret, mkS 92 [(2, (AV.v (.bool y)))] [] (Jc 8).2.toks 0)
  | .inr y => (.exit 0, mkS 92 [] [] (Jc 8).2.toks 0)
 b := fun u8 α kn ke => (match (decide (u8.2.2.1 < u8.2.1)) with | true => (if 0 <= u8.2.2.1 then (match u8.1[u8.2.2.1.toNat]? with | some c1 => (match zf1 c1 with | some e2 => (match (decide ((e2.1.length : Int) < 1)) with | true => (ke (.inl false)) | false => (match (decide ((e2.1.length : Int) > 100)) with | true => (ke (.inl false)) | false => (if 0 <= (0 : Int) then (match e2.1[(0 : Int).toNat]? with | some c3 => (match (c3.drop 0)[0]? with | some x4 => (match x4 with | .v (.int q6 n5) => (if q6 = .i64 then (match (n5 != 1) with | true => (ke (.inl false)) | false => (match znH N (u8.1, e2.1, u8.2.2.1, u8.2.1, u8.2.2.1, (e2.1.length : Int), 0, u8.2.2.2, e2.1) with | some y27 => (match y27 with | .inl z28 => (ke (.inl z28.2.1)) | .inr z29 => (kn (z29.1, z29.2.1, (i64 (z29.2.2.1 + 1)), z29.2.2.2))) | none => none)) else none) | _ => none) | none => none) | none => none) else none))) | none => none) | none => none) else none) | false => (ke (.inr ())))
abbrev zvJ (N : Nat) (x : qL × Int × Int × qL) : Option ((Bool) ⊕ (Unit)) := (jF N).L N x
def zdS (N : Nat) : FSpec where
 X := qL
 Y := Bool
 ash := [[some 1]]
 S := ⟨[[none]], [], [], [], []⟩
 pat := fun a b => zk a fun v1 c2 => ji v1 fun c3 => zk c3 fun c4 c5 => jb 1 c4 fun a0 => zQ c5 <| zQ c2 <| zQ b <| some a0
 args := fun x => [(AV.agg [(AV.list 1 x none)])]
 ret := fun y => ⟨(AV.v (.bool y)), [], none, [], [], [], none⟩
 t := fun x α k => (match (decide ((x.length : Int) > 500)) with | true => (k false) | false => (match zvJ N (x, (x.length : Int), 0, x) with | some y30 => (match y30 with | .inl z31 => (k z31) | .inr z32 => (k true)) | none => none))
abbrev zmE (N : Nat) (x : qL) : Option (Bool) := (zdS N).d x
def zbw (N : Nat) : List (Nat × LSpec) := [(8, jF N), (21, ZO N)]
def zfy : Code := Tryd.f14.body.getD .skip
theorem zoh (N : Nat) : Par (ZO N).b := by
 intro x α β kn ke kn' ke' r r' h h1 h2
 revert h
 dsimp only [ZO]
 (repeat' (first | (with_reducible refine ze ?_ ?_) | split)) <;> intro h <;> first | exact h1 _ h | exact h2 _ h | cases h
theorem zjz (N : Nat) : jc (zn qP) (zyY N) Jc N (zbw N) 21 zfy (ZO N) := fun x α kn ke => by kernel_rfl
theorem zep (N : Nat) : ZE qP Jc N (zbw N) 21 (zc 21 zfy) :=
 zD (zd qP) (zi _) zl Jc N (zbw N) 21 zfy (l := []) (by kernel_rfl) (by kernel_rfl) an (ZO N) rfl (fun s x hc h => by dsimp only [ZO] at h; exact zI hc h (fun _ _ => rfl) rfl rfl rfl) (fun _ => rfl) (zjz N) (zoh N)
theorem zqA (N : Nat) : Par (jF N).b := by
 intro x α β kn ke kn' ke' r r' h h1 h2
 revert h
 dsimp only [jF]
 (repeat' (first | (with_reducible refine ze ?_ ?_) | split)) <;> intro h <;> first | exact h1 _ h | exact h2 _ h | cases h
theorem zpS (N : Nat) : jc (zn qP) (zyY N) Jc N (zbw N) 8 zfy (jF N) := fun x α kn ke => by kernel_rfl
theorem zoG (N : Nat) : ZE qP Jc N (zbw N) 8 (zc 8 zfy) :=
 zD (zd qP) (zi _) zl Jc N (zbw N) 8 zfy (l := [(21, zc 21 zfy)]) (by kernel_rfl) (by kernel_rfl) (al (zep N) an) (jF N) rfl (fun s x hc h => by dsimp only [jF] at h; exact zI hc h (fun _ _ => rfl) rfl rfl rfl) (fun _ => rfl) (zpS N) (zqA N)
theorem ztv (N : Nat) : Zd (zdS N).t := by
 intro x α β k k' r r' h h1
 revert h
 dsimp only [zdS]
 (repeat' (first | (with_reducible refine ze ?_ ?_) | split)) <;> intro h <;> first | exact h1 _ h | cases h
theorem ztj (N : Nat) : Zf (zn qP) (zyY N) Jc (lam N (zbw N)) Tryd.f14 (zdS N) := fun x => by kernel_rfl
theorem zwV (N : Nat) (a : List AV) (b : qL) (x : (zdS N).X) (h : (zdS N).pat a b = some x) : a = (zdS N).args x /\ b = (zdS N).bs x := by
 obtain ⟨v1, c2, rfl, g0⟩ := zb (show zk _ _ = some x from h)
 obtain ⟨c3, rfl, g1⟩ := zS g0; clear g0
 obtain ⟨c4, c5, rfl, g2⟩ := zb g1; clear g1
 obtain ⟨a0, rfl, g3⟩ := zq g2; clear g2
 obtain ⟨rfl, g4⟩ := zg g3; clear g3
 obtain ⟨rfl, g5⟩ := zg g4; clear g4
 obtain ⟨rfl, g6⟩ := zg g5; clear g5
 clear h
 cases g6
 exact ⟨rfl, rfl⟩
def zxZ (N : Nat) : Ent qP := zx (zd qP) (zi _) zl 14 Tryd.f14 Tryd.func14 rfl Jc (lam N (zbw N)) (zm (l := [(8, zc 8 zfy), (21, zc 21 zfy)]) (al (zoG N) (al (zep N) an)) (by kernel_rfl)) (zdS N) (fun _ => ⟨rfl, rfl⟩) (ztj N) (zwV N) (ztv N)
def JK : Nat -> Keep × Keep := anL [(5, ⟨[3, 10, 11], [], [], [(9, 1)], [], [], [], [], false, none, []⟩, qK [3] [] []), (14, ⟨[3, 10, 11, 17, 18], [], [], [(9, 1), (16, 29)], [], [], [], [], false, none, []⟩, ⟨[3, 10, 11], [], [], [(9, 1)], [], [], [], [], false, none, []⟩)]
def zyJ (N : Nat) : GamK := gam (P := qP) []
def ZQ (N : Nat) : LSpec where
 X := qL × qL × Int × Int × Int × Int × Int
 Y := (qL × Int × Int × Int)
 p := fun s => rdS 29 0 [(9, .lst 1), (16, .lst 29), (3, .int .i64), (10, .int .i64), (11, .int .i64), (17, .int .i64), (18, .int .i64)] [] s fun ⟨a0, a1, a2, a3, a4, a5, a6, _⟩ _ => (a0, a1, a2, a3, a4, a5, a6)
 st := fun u14 => mkS 29 [(9, (AV.list 1 u14.1 none)), (16, (AV.list 29 u14.2.1 none)), (3, (qI u14.2.2.1)), (10, (qI u14.2.2.2.1)), (11, (qI u14.2.2.2.2.1)), (17, (qI u14.2.2.2.2.2.1)), (18, (qI u14.2.2.2.2.2.2))] [] (JK 14).1.toks 0
 out := fun y => (.exit 2, mkS 29 [(9, (AV.list 1 y.1 none)), (3, (qI y.2.1)), (10, (qI y.2.2.1)), (11, (qI y.2.2.2))] [] (JK 14).2.toks 0)
 b := fun u14 α kn ke => (match (decide (u14.2.2.2.2.2.2 < u14.2.2.2.2.2.1)) with | true => (if 0 <= u14.2.2.2.2.2.2 then (match u14.2.1[u14.2.2.2.2.2.2.toNat]? with | some c3 => (match zk9 c3 with | some e4 => (kn (u14.1, u14.2.1, (if e4.2.1 > u14.2.2.1 then e4.2.1 else u14.2.2.1), u14.2.2.2.1, u14.2.2.2.2.1, u14.2.2.2.2.2.1, (i64 (u14.2.2.2.2.2.2 + 1)))) | none => none) | none => none) else none) | false => (ke (u14.1, u14.2.2.1, u14.2.2.2.1, u14.2.2.2.2.1)))
abbrev zmi (N : Nat) (x : qL × qL × Int × Int × Int × Int × Int) : Option ((qL × Int × Int × Int)) := (ZQ N).L N x
def jE (N : Nat) : LSpec where
 X := qL × Int × Int × Int
 Y := (Int)
 p := fun s => rdS 29 0 [(9, .lst 1), (3, .int .i64), (10, .int .i64), (11, .int .i64)] [] s fun ⟨a0, a1, a2, a3, _⟩ _ => (a0, a1, a2, a3)
 st := fun u5 => mkS 29 [(9, (AV.list 1 u5.1 none)), (3, (qI u5.2.1)), (10, (qI u5.2.2.1)), (11, (qI u5.2.2.2))] [] (JK 5).1.toks 0
 out := fun y => (.exit 0, mkS 29 [(3, (qI y))] [] (JK 5).2.toks 0)
 b := fun u5 α kn ke => (match (decide (u5.2.2.2 < u5.2.2.1)) with | true => (if 0 <= u5.2.2.2 then (match u5.1[u5.2.2.2.toNat]? with | some c1 => (match zf1 c1 with | some e2 => (match zmi N (u5.1, e2.1, u5.2.1, u5.2.2.1, u5.2.2.2, (e2.1.length : Int), 0) with | some y5 => (kn (y5.1, y5.2.1, y5.2.2.1, (i64 (y5.2.2.2 + 1)))) | none => none) | none => none) | none => none) else none) | false => (ke u5.2.1))
abbrev zvU (N : Nat) (x : qL × Int × Int × Int) : Option ((Int)) := (jE N).L N x
def zdZ (N : Nat) : FSpec where
 X := qL
 Y := Int
 ash := [[some 1]]
 S := ⟨[[none]], [], [], [], []⟩
 pat := fun a b => zk a fun v1 c2 => ji v1 fun c3 => zk c3 fun c4 c5 => jb 1 c4 fun a0 => zQ c5 <| zQ c2 <| zQ b <| some a0
 args := fun x => [(AV.agg [(AV.list 1 x none)])]
 ret := fun y => ⟨(AV.v (.int .i64 y)), [], none, [], [], [], none⟩
 t := fun x α k => (match zvU N (x, 0, (x.length : Int), 0) with | some y6 => (k y6) | none => none)
abbrev zAW (N : Nat) (x : qL) : Option (Int) := (zdZ N).d x
def zbE (N : Nat) : List (Nat × LSpec) := [(5, jE N), (14, ZQ N)]
def zfJ : Code := Tryd.f64.body.getD .skip
theorem zl5 (N : Nat) : Par (ZQ N).b := by
 intro x α β kn ke kn' ke' r r' h h1 h2
 revert h
 dsimp only [ZQ]
 (repeat' (first | (with_reducible refine ze ?_ ?_) | split)) <;> intro h <;> first | exact h1 _ h | exact h2 _ h | cases h
theorem zjE (N : Nat) : jc (zn qP) (zyJ N) JK N (zbE N) 14 zfJ (ZQ N) := fun x α kn ke => by kernel_rfl
theorem zei (N : Nat) : ZE qP JK N (zbE N) 14 (zc 14 zfJ) :=
 zD (zd qP) (zi _) zl JK N (zbE N) 14 zfJ (l := []) (by kernel_rfl) (by kernel_rfl) an (ZQ N) rfl (fun s x hc h => by dsimp only [ZQ] at h; exact zI hc h (fun _ _ => rfl) rfl rfl rfl) (fun _ => rfl) (zjE N) (zl5 N)
theorem zqd (N : Nat) : Par (jE N).b := by
 intro x α β kn ke kn' ke' r r' h h1 h2
 revert h
 dsimp only [jE]
 (repeat' (first | (with_reducible refine ze ?_ ?_) | split)) <;> intro h <;> first | exact h1 _ h | exact h2 _ h | cases h
theorem zoV (N : Nat) : jc (zn qP) (zyJ N) JK N (zbE N) 5 zfJ (jE N) := fun x α kn ke => by kernel_rfl
theorem zoJ (N : Nat) : ZE qP JK N (zbE N) 5 (zc 5 zfJ) :=
 zD (zd qP) (zi _) zl JK N (zbE N) 5 zfJ (l := [(14, zc 14 zfJ)]) (by kernel_rfl) (by kernel_rfl) (al (zei N) an) (jE N) rfl (fun s x hc h => by dsimp only [jE] at h; exact zI hc h (fun _ _ => rfl) rfl rfl rfl) (fun _ => rfl) (zoV N) (zqd N)
theorem zuU (N : Nat) : Zd (zdZ N).t := by
 intro x α β k k' r r' h h1
 revert h
 dsimp only [zdZ]
 (repeat' (first | (with_reducible refine ze ?_ ?_) | split)) <;> intro h <;> first | exact h1 _ h | cases h
theorem zqO (N : Nat) : Zf (zn qP) (zyJ N) JK (lam N (zbE N)) Tryd.f64 (zdZ N) := fun x => by kernel_rfl
theorem zx4 (N : Nat) (a : List AV) (b : qL) (x : (zdZ N).X) (h : (zdZ N).pat a b = some x) : a = (zdZ N).args x /\ b = (zdZ N).bs x := by
 obtain ⟨v1, c2, rfl, g0⟩ := zb (show zk _ _ = some x from h)
 obtain ⟨c3, rfl, g1⟩ := zS g0; clear g0
 obtain ⟨c4, c5, rfl, g2⟩ := zb g1; clear g1
 obtain ⟨a0, rfl, g3⟩ := zq g2; clear g2
 obtain ⟨rfl, g4⟩ := zg g3; clear g3
 obtain ⟨rfl, g5⟩ := zg g4; clear g4
 obtain ⟨rfl, g6⟩ := zg g5; clear g5
 clear h
 cases g6
 exact ⟨rfl, rfl⟩
def zDb (N : Nat) : Ent qP := zx (zd qP) (zi _) zl 64 Tryd.f64 Tryd.func64 rfl JK (lam N (zbE N)) (zm (l := [(5, zc 5 zfJ), (14, zc 14 zfJ)]) (al (zoJ N) (al (zei N) an)) (by kernel_rfl)) (zdZ N) (fun _ => ⟨rfl, rfl⟩) (zqO N) (zx4 N) (zuU N)
def zv0 : Nat -> Keep × Keep := anL []
def zCS (N : Nat) : GamK := gam (P := qP) [zDb N]
def zdP (N : Nat) : FSpec where
 X := qL × Int
 Y := Int
 ash := [[some 1], [none]]
 S := ⟨[[none]], [], [], [], []⟩
 pat := fun a b => zk a fun v1 c2 => ji v1 fun c3 => zk c3 fun c4 c5 => jb 1 c4 fun a0 => zQ c5 <| zk c2 fun v6 c7 => Jk .i64 v6 fun a1 => zQ c7 <| zQ b <| some (a0, a1)
 args := fun x => [(AV.agg [(AV.list 1 x.1 none)]), (AV.v (.int .i64 x.2))]
 ret := fun y => ⟨(AV.v (.int .i64 y)), [], none, [], [], [], none⟩
 t := fun x α k => (match (decide (x.2 < 0)) with | true => (k 2) | false => (match (decide (x.2 > 18014398509481984)) with | true => (k 2) | false => (match zAW N x.1 with | some y1 => (match (decide (x.2 < y1)) with | true => (k 9) | false => (k 0)) | none => none)))
abbrev zuY (N : Nat) (x : qL × Int) : Option (Int) := (zdP N).d x
theorem zur (N : Nat) : Zd (zdP N).t := by
 intro x α β k k' r r' h h1
 revert h
 dsimp only [zdP]
 (repeat' (first | (with_reducible refine ze ?_ ?_) | split)) <;> intro h <;> first | exact h1 _ h | cases h
theorem zuO (N : Nat) : Zf (zn qP) (zCS N) zv0 (lam N []) Tryd.f34 (zdP N) := fun x => by kernel_rfl
theorem zxh (N : Nat) (a : List AV) (b : qL) (x : (zdP N).X) (h : (zdP N).pat a b = some x) : a = (zdP N).args x /\ b = (zdP N).bs x := by
 obtain ⟨v1, c2, rfl, g0⟩ := zb (show zk _ _ = some x from h)
 obtain ⟨c3, rfl, g1⟩ := zS g0; clear g0
 obtain ⟨c4, c5, rfl, g2⟩ := zb g1; clear g1
 obtain ⟨a0, rfl, g3⟩ := zq g2; clear g2
 obtain ⟨rfl, g4⟩ := zg g3; clear g3
 obtain ⟨v6, c7, rfl, g5⟩ := zb g4; clear g4
 obtain ⟨a1, rfl, g6⟩ := zG g5; clear g5
 obtain ⟨rfl, g7⟩ := zg g6; clear g6
 obtain ⟨rfl, g8⟩ := zg g7; clear g7
 clear h
 cases g8
 exact ⟨rfl, rfl⟩
def zBh (N : Nat) : Ent qP := zx (zd qP) (zi _) zl 34 Tryd.f34 Tryd.func34 rfl zv0 (lam N []) (zm (l := []) an (by kernel_rfl)) (zdP N) (fun _ => ⟨rfl, rfl⟩) (zuO N) (zxh N) (zur N)
def zwh : Nat -> Keep × Keep := anL []
def zD3 (N : Nat) : GamK := gam (P := qP) []
def zlm (N : Nat) : FSpec where
 X := qL
 Y := qL
 ash := [[some 9]]
 S := ⟨[[some 2000009]], [], [], [], []⟩
 pat := fun a b => rdA [.lst 9] [] a b fun ⟨a0, _⟩ _ => a0
 args := fun x => [(AV.list 9 x none)]
 ret := fun y => ⟨(AV.list 9 y (some 2560000000)), [], none, [], [2560000000], [], none⟩
 t := fun x α k => (match x with | [] => (zvZ (k ([] : qL)) (if (([] : qL).length + x.length) * 104 <= zh then (k (([] : qL) ++ x)) else none)) | _ :: _ => (if (([] : qL).length + x.length) * 104 <= zh then (k (([] : qL) ++ x)) else none))
abbrev zrn (N : Nat) (x : qL) : Option (qL) := (zlm N).d x
theorem ztm (N : Nat) : Zd (zlm N).t := by
 intro x α β k k' r r' h h1
 revert h
 dsimp only [zlm]
 (repeat' (first | (with_reducible refine ze ?_ ?_) | (with_reducible refine zqt ?_ ?_) | split)) <;> intro h <;> first | exact h1 _ h | cases h
theorem zr1 (N : Nat) : Zf (zn qP) (zD3 N) zwh (lam N []) Tryd.f66 (zlm N) := fun x => by kernel_rfl
def zDs (N : Nat) : Ent qP := zx (zd qP) (zi _) zl 66 Tryd.f66 Tryd.func66 rfl zwh (lam N []) (zm (l := []) an (by kernel_rfl)) (zlm N) (fun _ => ⟨rfl, rfl⟩) (zr1 N) (fun _ _ _ h => zu h (fun _ _ => rfl) (fun _ _ => rfl)) (ztm N)
def zwu : Nat -> Keep × Keep := anL []
def zCj (N : Nat) : GamK := gam (P := qP) [zDs N]
def zjP (N : Nat) : FSpec where
 X := RT0
 Y := RT0
 ash := [[none, none, none, none, none, none, none, none, none, some 9, none, none, none, none, none, none, none, none, none, none, none, none, none, none, none]]
 S := ⟨[[none, none, none, none, none, none, none, none, none, some 9, none, none, none, none, none, none, none, none, none, none, none, none, none, none, none]], [], [], [], []⟩
 pat := fun a b => rdA [.agg RK0] [] a b fun ⟨a0, _⟩ _ => a0
 args := fun x => [(AV.agg (zB x))]
 ret := fun y => ⟨(AV.agg (zB y)), [], none, [], [], [], none⟩
 t := fun x α k => (match zrn N x.2.2.2.2.2.2.2.2.2.1 with | some y1 => (k (x.1, x.2.1, x.2.2.1, x.2.2.2.1, x.2.2.2.2.1, x.2.2.2.2.2.1, x.2.2.2.2.2.2.1, x.2.2.2.2.2.2.2.1, x.2.2.2.2.2.2.2.2.1, y1, x.2.2.2.2.2.2.2.2.2.2)) | none => none)
abbrev zd5 (N : Nat) (x : RT0) : Option (RT0) := (zjP N).d x
theorem zru (N : Nat) : Zd (zjP N).t := by
 intro x α β k k' r r' h h1
 revert h
 dsimp only [zjP]
 (repeat' (first | (with_reducible refine ze ?_ ?_) | split)) <;> intro h <;> first | exact h1 _ h | cases h
theorem zsX (N : Nat) : Zf (zn qP) (zCj N) zwu (lam N []) Tryd.f39 (zjP N) := fun x => by kernel_rfl
def zsA (N : Nat) : Ent qP := zx (zd qP) (zi _) zl 39 Tryd.f39 Tryd.func39 rfl zwu (lam N []) (zm (l := []) an (by kernel_rfl)) (zjP N) (fun _ => ⟨rfl, rfl⟩) (zsX N) (fun _ _ _ h => zu h (fun _ _ => rfl) (fun _ _ => rfl)) (zru N)
def zvi : Nat -> Keep × Keep := anL []
def zDk (N : Nat) : GamK := gam (P := qP) []
def zlD (N : Nat) : FSpec where
 X := Int × Int
 Y := Int × Int
 ash := [[none], [none]]
 S := ⟨[[none], [none]], [], [], [], []⟩
 pat := fun a b => rdA [.int .u64, .int .u64] [] a b fun ⟨a0, a1, _⟩ _ => (a0, a1)
 args := fun x => [(AV.v (.int .u64 x.1)), (AV.v (.int .u64 x.2))]
 ret := fun y => ⟨(AV.tup [(AV.v (.int .u64 y.1)), (AV.v (.int .u64 y.2))]), [], none, [], [], [], none⟩
 t := fun x α k => (k ((IntKind.u64.wrap ((IntKind.u64.wrap ((IntKind.u64.wrap ((shR .u64 x.1 (32 : Int)) * (shR .u64 x.2 (32 : Int)))) + (shR .u64 (IntKind.u64.wrap ((IntKind.u64.wrap ((shR .u64 x.1 (32 : Int)) * (zwM .u64 x.2 (4294967295 : Int)))) + (shR .u64 (IntKind.u64.wrap ((zwM .u64 x.1 (4294967295 : Int)) * (zwM .u64 x.2 (4294967295 : Int)))) (32 : Int)))) (32 : Int)))) + (shR .u64 (IntKind.u64.wrap ((zwM .u64 (IntKind.u64.wrap ((IntKind.u64.wrap ((shR .u64 x.1 (32 : Int)) * (zwM .u64 x.2 (4294967295 : Int)))) + (shR .u64 (IntKind.u64.wrap ((zwM .u64 x.1 (4294967295 : Int)) * (zwM .u64 x.2 (4294967295 : Int)))) (32 : Int)))) (4294967295 : Int)) + (IntKind.u64.wrap ((zwM .u64 x.1 (4294967295 : Int)) * (shR .u64 x.2 (32 : Int)))))) (32 : Int)))), (IntKind.u64.wrap (x.1 * x.2))))
abbrev zCm (N : Nat) (x : Int × Int) : Option (Int × Int) := (zlD N).d x
theorem zrX (N : Nat) : Zd (zlD N).t := by
 intro x α β k k' r r' h h1
 revert h
 dsimp only [zlD]
 (repeat' (first | (with_reducible refine ze ?_ ?_) | split)) <;> intro h <;> first | exact h1 _ h | cases h
theorem ztH (N : Nat) : Zf (zn qP) (zDk N) zvi (lam N []) Tryd.f93 (zlD N) := fun x => by kernel_rfl
def zDd (N : Nat) : Ent qP := zx (zd qP) (zi _) zl 93 Tryd.f93 Tryd.func93 rfl zvi (lam N []) (zm (l := []) an (by kernel_rfl)) (zlD N) (fun _ => ⟨rfl, rfl⟩) (ztH N) (fun _ _ _ h => zu h (fun _ _ => rfl) (fun _ _ => rfl)) (zrX N)
def zwj : Nat -> Keep × Keep := anL []
def zD0 (N : Nat) : GamK := gam (P := qP) [zDd N]
def zo4 (N : Nat) : FSpec where
 X := Int × Int
 Y := Int × Int
 ash := [[none], [none]]
 S := ⟨[[none], [none]], [], [], [], []⟩
 pat := fun a b => rdA [.int .u64, .int .u64] [] a b fun ⟨a0, a1, _⟩ _ => (a0, a1)
 args := fun x => [(AV.v (.int .u64 x.1)), (AV.v (.int .u64 x.2))]
 ret := fun y => ⟨(AV.tup [(AV.v (.int .u64 y.1)), (AV.v (.int .u64 y.2))]), [], none, [], [], [], none⟩
 t := fun x α k => (match zCm N x with | some y1 => (k y1) | none => none)
abbrev zD6 (N : Nat) (x : Int × Int) : Option (Int × Int) := (zo4 N).d x
theorem ztP (N : Nat) : Zd (zo4 N).t := by
 intro x α β k k' r r' h h1
 revert h
 dsimp only [zo4]
 (repeat' (first | (with_reducible refine ze ?_ ?_) | split)) <;> intro h <;> first | exact h1 _ h | cases h
theorem zsx (N : Nat) : Zf (zn qP) (zD0 N) zwj (lam N []) Tryd.f68 (zo4 N) := fun x => by kernel_rfl
def zDq (N : Nat) : Ent qP := zx (zd qP) (zi _) zl 68 Tryd.f68 Tryd.func68 rfl zwj (lam N []) (zm (l := []) an (by kernel_rfl)) (zo4 N) (fun _ => ⟨rfl, rfl⟩) (zsx N) (fun _ _ _ h => zu h (fun _ _ => rfl) (fun _ _ => rfl)) (ztP N)
def zvq : Nat -> Keep × Keep := anL []
def zCL (N : Nat) : GamK := gam (P := qP) []
def zfj (N : Nat) : FSpec where
 X := qL
 Y := RT7
 ash := [[some 29]]
 S := ⟨[[none, none, none, none, none, none, none, none, none, none, none, none, none, some 9, none, none, none, none, none, none, none, none, none, none, none, none, none, none, none]], [], [], [], []⟩
 pat := fun a b => zk a fun v1 c2 => ji v1 fun c3 => zk c3 fun c4 c5 => jb 29 c4 fun a0 => zQ c5 <| zQ c2 <| zQ b <| some a0
 args := fun x => [(AV.agg [(AV.list 29 x none)])]
 ret := fun y => ⟨(AV.agg (zM y)), [], none, [], [], [], none⟩
 t := fun x α k => (if 0 <= (i64 ((x.length : Int) - 1)) then (match x[(i64 ((x.length : Int) - 1)).toNat]? with | some c1 => (match zk9 c1 with | some e2 => (k e2) | none => none) | none => none) else none)
abbrev zml (N : Nat) (x : qL) : Option (RT7) := (zfj N).d x
theorem zuH (N : Nat) : Zd (zfj N).t := by
 intro x α β k k' r r' h h1
 revert h
 dsimp only [zfj]
 (repeat' (first | (with_reducible refine ze ?_ ?_) | split)) <;> intro h <;> first | exact h1 _ h | cases h
theorem ztQ (N : Nat) : Zf (zn qP) (zCL N) zvq (lam N []) Tryd.f36 (zfj N) := fun x => by kernel_rfl
theorem zx2 (N : Nat) (a : List AV) (b : qL) (x : (zfj N).X) (h : (zfj N).pat a b = some x) : a = (zfj N).args x /\ b = (zfj N).bs x := by
 obtain ⟨v1, c2, rfl, g0⟩ := zb (show zk _ _ = some x from h)
 obtain ⟨c3, rfl, g1⟩ := zS g0; clear g0
 obtain ⟨c4, c5, rfl, g2⟩ := zb g1; clear g1
 obtain ⟨a0, rfl, g3⟩ := zq g2; clear g2
 obtain ⟨rfl, g4⟩ := zg g3; clear g3
 obtain ⟨rfl, g5⟩ := zg g4; clear g4
 obtain ⟨rfl, g6⟩ := zg g5; clear g5
 clear h
 cases g6
 exact ⟨rfl, rfl⟩
def ztT (N : Nat) : Ent qP := zx (zd qP) (zi _) zl 36 Tryd.f36 Tryd.func36 rfl zvq (lam N []) (zm (l := []) an (by kernel_rfl)) (zfj N) (fun _ => ⟨rfl, rfl⟩) (ztQ N) (zx2 N) (zuH N)
def zvn : Nat -> Keep × Keep := anL []
def zCV (N : Nat) : GamK := gam (P := qP) []
def zn7 (N : Nat) : FSpec where
 X := RT0 × RT0
 Y := Bool
 ash := [[none, none, none, none, none, none, none, none, none, some 9, none, none, none, none, none, none, none, none, none, none, none, none, none, none, none], [none, none, none, none, none, none, none, none, none, some 9, none, none, none, none, none, none, none, none, none, none, none, none, none, none, none]]
 S := ⟨[[none]], [], [], [], []⟩
 pat := fun a b => rdA [.agg RK0, .agg RK0] [] a b fun ⟨a0, a1, _⟩ _ => (a0, a1)
 args := fun x => [(AV.agg (zB x.1)), (AV.agg (zB x.2))]
 ret := fun y => ⟨(AV.v (.bool y)), [], none, [], [], [], none⟩
 t := fun x α k => (k (((x.1.1 == x.2.1) && ((x.1.2.1 == x.2.2.1) && ((x.1.2.2.1 == x.2.2.2.1) && ((x.1.2.2.2.1 == x.2.2.2.2.1) && true)))) && ((x.1.2.2.2.2.1 == x.2.2.2.2.2.1) && ((x.1.2.2.2.2.2.1 == x.2.2.2.2.2.2.1) && ((x.1.2.2.2.2.2.2.1 == x.2.2.2.2.2.2.2.1) && ((x.1.2.2.2.2.2.2.2.1 == x.2.2.2.2.2.2.2.2.1) && ((x.1.2.2.2.2.2.2.2.2.1 == x.2.2.2.2.2.2.2.2.2.1) && true)))))))
abbrev zyv (N : Nat) (x : RT0 × RT0) : Option (Bool) := (zn7 N).d x
theorem zqM (N : Nat) : Zd (zn7 N).t := by
 intro x α β k k' r r' h h1
 revert h
 dsimp only [zn7]
 (repeat' (first | (with_reducible refine ze ?_ ?_) | split)) <;> intro h <;> first | exact h1 _ h | cases h
theorem zsf (N : Nat) : Zf (zn qP) (zCV N) zvn (lam N []) Tryd.f46 (zn7 N) := fun x => by kernel_rfl
def zCs (N : Nat) : Ent qP := zx (zd qP) (zi _) zl 46 Tryd.f46 Tryd.func46 rfl zvn (lam N []) (zm (l := []) an (by kernel_rfl)) (zn7 N) (fun _ => ⟨rfl, rfl⟩) (zsf N) (fun _ _ _ h => zu h (fun _ _ => rfl) (fun _ _ => rfl)) (zqM N)
def zaF : Nat -> Keep × Keep := anL [(12, ⟨[7, 8], [], [30], [], [], [], [], [30], false, none, []⟩, ⟨[7], [], [30], [], [], [], [], [30], false, none, []⟩)]
def zvb (N : Nat) : GamK := gam (P := qP) [zDq N]
def Jv (N : Nat) : LSpec where
 X := Nat × Int × qA
 Y := (Nat × qA)
 p := fun s => rdS 48 0 [(7, .vs0 30 1), (8, .int .i64)] [(30, .tt)] s fun ⟨a0, a1, _⟩ ⟨a2, _⟩ => (a0, a1, a2)
 st := fun u12 => mkS 48 [(7, (AV.vs 30 0 u12.1 1)), (8, (qI u12.2.1))] [(30, u12.2.2)] (zaF 12).1.toks 0
 out := fun y => (.exit 0, mkS 48 [(7, (AV.vs 30 0 y.1 1))] [(30, y.2)] (zaF 12).2.toks 0)
 b := fun u12 α kn ke => (match (decide (u12.2.1 < ((u12.1 : Nat) : Int))) with | true => (if 0 <= u12.2.1 /\ u12.2.1 <= (u12.1 : Int) then (if 0 <= u12.2.1 /\ u12.2.1 <= (u12.1 : Int) then (if (0 + (u12.2.1.toNat)) * 1 <= u12.2.2.length then (if ((0 + u12.2.1.toNat) + (u12.1 - u12.2.1.toNat)) * 1 <= u12.2.2.length then (kn (u12.1, (i64 (u12.2.1 + (((Nat.min (u12.2.1.toNat) (u12.1 - u12.2.1.toNat)) : Nat) : Int))), ((splice u12.2.2 ((0 + u12.2.1.toNat) * 1) ((u12.2.2.drop (0 * 1)).take ((Nat.min (u12.2.1.toNat) (u12.1 - u12.2.1.toNat)) * 1))).map dat0))) else none) else none) else none) else none) | false => (ke (u12.1, (u12.2.2.map dat0))))
abbrev ztu (N : Nat) (x : Nat × Int × qA) : Option ((Nat × qA)) := (Jv N).L N x
def zg1 (N : Nat) : FSpec where
 X := qL × Int
 Y := Nat × qA
 ash := [[some 1], [none]]
 S := ⟨[[some 1000001]], [], [], [], []⟩
 bm := true
 pat := fun a b => rdA [.lst 1, .int .i64] [] a b fun ⟨a0, a1, _⟩ _ => (a0, a1)
 args := fun x => [(AV.list 1 x.1 none), (AV.v (.int .i64 x.2))]
 ret := fun y => ⟨(AV.vs 0 0 y.1 1), [], some y.2, [], [], [], none⟩
 t := fun x α k => (match (decide (x.2 < 0)) with | true => none | false => (match zD6 N ((IntKind.u64.wrap (x.1.length : Int)), (IntKind.u64.wrap x.2)) with | some y1 => (match (decide (y1.1 > 0)) with | true => none | false => (match (decide (y1.2 > 9223372036854775807)) with | true => none | false => (if 0 <= (IntKind.i64.wrap y1.2) /\ (IntKind.i64.wrap y1.2) <= (IntKind.i64.wrap y1.2) /\ (IntKind.i64.wrap y1.2).toNat * 8 <= zh then (if (0 + ((IntKind.i64.wrap y1.2).toNat)) * 1 <= (List.replicate (IntKind.i64.wrap y1.2).toNat (AV.v (.int .i64 0))).length then (match ztu N (((IntKind.i64.wrap y1.2).toNat), (((Nat.min x.1.length ((IntKind.i64.wrap y1.2).toNat)) : Nat) : Int), ((splice (List.replicate (IntKind.i64.wrap y1.2).toNat (AV.v (.int .i64 0))) (0 * 1) ((x.1.take (Nat.min x.1.length ((IntKind.i64.wrap y1.2).toNat))).flatten)).map dat0)) with | some y2 => (k (y2.1, (y2.2.map dat0))) | none => none) else none) else none))) | none => none))
abbrev zwm (N : Nat) (x : qL × Int) : Option (Nat × qA) := (zg1 N).d x
def zdA (N : Nat) : List (Nat × LSpec) := [(12, Jv N)]
def zjj : Code := Tryd.f44.body.getD .skip
theorem zk0 (N : Nat) : Par (Jv N).b := by
 intro x α β kn ke kn' ke' r r' h h1 h2
 revert h
 dsimp only [Jv]
 (repeat' (first | (with_reducible refine ze ?_ ?_) | split)) <;> intro h <;> first | exact h1 _ h | exact h2 _ h | cases h
theorem zhF (N : Nat) : jc (zn qP) (zvb N) zaF N (zdA N) 12 zjj (Jv N) := fun x α kn ke => by kernel_rfl
theorem zhC (N : Nat) : ZE qP zaF N (zdA N) 12 (zc 12 zjj) :=
 zD (zd qP) (zi _) zl zaF N (zdA N) 12 zjj (l := []) (by kernel_rfl) (by kernel_rfl) an (Jv N) rfl (fun s x hc h => by dsimp only [Jv] at h; exact zI hc h (fun _ _ => rfl) rfl rfl rfl) (fun _ => rfl) (zhF N) (zk0 N)
theorem znF (N : Nat) : Zd (zg1 N).t := by
 intro x α β k k' r r' h h1
 revert h
 dsimp only [zg1]
 (repeat' (first | (with_reducible refine ze ?_ ?_) | split)) <;> intro h <;> first | exact h1 _ h | cases h
theorem zmM (N : Nat) : Zf (zn qP) (zvb N) zaF (lam N (zdA N)) Tryd.f44 (zg1 N) := fun x => by kernel_rfl
def zz7 (N : Nat) : Ent qP := zx (zd qP) (zi _) zl 44 Tryd.f44 Tryd.func44 rfl zaF (lam N (zdA N)) (zm (l := [(12, zc 12 zjj)]) (al (zhC N) an) (by kernel_rfl)) (zg1 N) (fun _ => ⟨rfl, rfl⟩) (zmM N) (fun _ _ _ h => zu h (fun _ _ => rfl) (fun _ _ => rfl)) (znF N)
def j8 : Nat -> Keep × Keep := anL [(2, ⟨[0, 2, 3, 4, 12, 13], [], [0, 1, 2, 3, 4, 5], [(11, 1)], [], [], [], [4, 5], false, none, []⟩, ⟨[], [], [0, 1, 2, 3, 4, 5], [], [], [], [], [4, 5], false, none, []⟩), (14, ⟨[0, 2, 3, 4, 6, 7, 12, 13, 30, 31], [], [0, 1, 2, 3, 4, 5, 7], [(11, 1), (29, 25)], [], [], [], [4, 5], false, none, []⟩, ⟨[0, 2, 3, 4, 12, 13], [], [0, 1, 2, 3, 4, 5], [(11, 1)], [], [], [], [4, 5], false, none, []⟩)]
def zyb (N : Nat) : GamK := gam (P := qP) [ztT N, zCs N]
def zZ (N : Nat) : LSpec where
 X := qL × qL × Int × Int × Int × Int × Int × qL × Nat × qL × Nat × qA × qA × qL
 Y := (qL × Int × Int × qL × Nat × qL × Nat × qA × qA)
 p := fun s => zej s.env.length 58 <| zej s.nin 6 <| jb 1 (s.at 11) fun a0 => jb 25 (s.at 29) fun a1 => pFn 46 (s.at 0) fun c5 c6 => zQ c5 <| zQ c6 <| za9 1 0 (s.at 2) <| za9 2 0 (s.at 3) <| za9 3 0 (s.at 4) <| Jk .i64 (s.at 6) fun a2 => za9 7 0 (s.at 7) <| Jk .i64 (s.at 12) fun a3 => Jk .i64 (s.at 13) fun a4 => Jk .i64 (s.at 30) fun a5 => Jk .i64 (s.at 31) fun a6 => ZX (s.bx 0) fun c17 => zk c17 fun c19 c20 => jb 1 c19 fun a7 => zQ c20 <| ZX (s.bx 1) fun c21 => zk c21 fun c23 c24 => zho 4 1 c23 fun a8 => zQ c24 <| ZX (s.bx 2) fun c25 => zk c25 fun c27 c28 => jb 25 c27 fun a9 => zQ c28 <| ZX (s.bx 3) fun c29 => zk c29 fun c31 c32 => zho 5 1 c31 fun a10 => zQ c32 <| ZX (s.bx 4) fun a11 => ZX (s.bx 5) fun a12 => ZX (s.bx 7) fun c35 => zk c35 fun c37 c38 => jb 29 c37 fun a13 => zQ c38 <| some (a0, a1, a2, a3, a4, a5, a6, a7, a8, a9, a10, a11, a12, a13)
 st := fun u14 => mkS 58 [(11, (AV.list 1 u14.1 none)), (29, (AV.list 25 u14.2.1 none)), (0, (AV.fn (.func 46) [] [])), (2, (AV.ptr 1 0)), (3, (AV.ptr 2 0)), (4, (AV.ptr 3 0)), (6, (qI u14.2.2.1)), (7, (AV.ptr 7 0)), (12, (qI u14.2.2.2.1)), (13, (qI u14.2.2.2.2.1)), (30, (qI u14.2.2.2.2.2.1)), (31, (qI u14.2.2.2.2.2.2.1))] [(0, [(AV.list 1 u14.2.2.2.2.2.2.2.1 none)]), (1, [(AV.vs 4 0 u14.2.2.2.2.2.2.2.2.1 1)]), (2, [(AV.list 25 u14.2.2.2.2.2.2.2.2.2.1 none)]), (3, [(AV.vs 5 0 u14.2.2.2.2.2.2.2.2.2.2.1 1)]), (4, u14.2.2.2.2.2.2.2.2.2.2.2.1), (5, u14.2.2.2.2.2.2.2.2.2.2.2.2.1), (7, [(AV.list 29 u14.2.2.2.2.2.2.2.2.2.2.2.2.2 none)])] (j8 14).1.toks 6
 out := fun y => (.exit 2, mkS 58 [(11, (AV.list 1 y.1 none)), (0, (AV.fn (.func 46) [] [])), (2, (AV.ptr 1 0)), (3, (AV.ptr 2 0)), (4, (AV.ptr 3 0)), (12, (qI y.2.1)), (13, (qI y.2.2.1))] [(0, [(AV.list 1 y.2.2.2.1 none)]), (1, [(AV.vs 4 0 y.2.2.2.2.1 1)]), (2, [(AV.list 25 y.2.2.2.2.2.1 none)]), (3, [(AV.vs 5 0 y.2.2.2.2.2.2.1 1)]), (4, y.2.2.2.2.2.2.2.1), (5, y.2.2.2.2.2.2.2.2)] (j8 14).2.toks 6)
 b := fun u14 α kn ke => (match (decide (u14.2.2.2.2.2.2.1 < u14.2.2.2.2.2.1)) with | true => (if 0 <= u14.2.2.2.2.2.2.1 then (match u14.2.1[u14.2.2.2.2.2.2.1.toNat]? with | some c12 => (match zgT c12 with | some e13 => (if 0 <= u14.2.2.2.2.2.2.1 /\ u14.2.2.2.2.2.2.1 < (u14.2.2.2.2.2.2.2.2.2.2.1 : Int) then (match u14.2.2.2.2.2.2.2.2.2.2.2.2.1[((0 + u14.2.2.2.2.2.2.1.toNat) * 1)]? with | some x14 => (match x14 with | .v (.bool b15) => (match (!b15) with | true => (match zml N u14.2.2.2.2.2.2.2.2.2.2.2.2.2 with | some y16 => (match zyv N ((zy y16), e13) with | some y17 => (match y17 with | true => (if 0 <= u14.2.2.1 /\ u14.2.2.1 < (u14.2.2.2.2.2.2.2.2.1 : Int) then (if ((0 + u14.2.2.1.toNat) * 1) + 1 <= u14.2.2.2.2.2.2.2.2.2.2.2.1.length then (if 0 <= u14.2.2.2.2.2.2.1 /\ u14.2.2.2.2.2.2.1 < (u14.2.2.2.2.2.2.2.2.2.2.1 : Int) then (if ((0 + u14.2.2.2.2.2.2.1.toNat) * 1) + 1 <= u14.2.2.2.2.2.2.2.2.2.2.2.2.1.length then (ke (u14.1, u14.2.2.2.1, u14.2.2.2.2.1, u14.2.2.2.2.2.2.2.1, u14.2.2.2.2.2.2.2.2.1, u14.2.2.2.2.2.2.2.2.2.1, u14.2.2.2.2.2.2.2.2.2.2.1, ((splice u14.2.2.2.2.2.2.2.2.2.2.2.1 ((0 + u14.2.2.1.toNat) * 1) [(AV.v (.int .i64 u14.2.2.2.2.2.2.1))]).map dat0), ((splice u14.2.2.2.2.2.2.2.2.2.2.2.2.1 ((0 + u14.2.2.2.2.2.2.1.toNat) * 1) [(AV.v (.bool true))]).map dat0))) else none) else none) else none) else none) | false => (kn (u14.1, u14.2.1, u14.2.2.1, u14.2.2.2.1, u14.2.2.2.2.1, u14.2.2.2.2.2.1, (i64 (u14.2.2.2.2.2.2.1 + 1)), u14.2.2.2.2.2.2.2.1, u14.2.2.2.2.2.2.2.2.1, u14.2.2.2.2.2.2.2.2.2.1, u14.2.2.2.2.2.2.2.2.2.2.1, (u14.2.2.2.2.2.2.2.2.2.2.2.1.map dat0), (u14.2.2.2.2.2.2.2.2.2.2.2.2.1.map dat0), u14.2.2.2.2.2.2.2.2.2.2.2.2.2))) | none => none) | none => none) | false => (kn (u14.1, u14.2.1, u14.2.2.1, u14.2.2.2.1, u14.2.2.2.2.1, u14.2.2.2.2.2.1, (i64 (u14.2.2.2.2.2.2.1 + 1)), u14.2.2.2.2.2.2.2.1, u14.2.2.2.2.2.2.2.2.1, u14.2.2.2.2.2.2.2.2.2.1, u14.2.2.2.2.2.2.2.2.2.2.1, (u14.2.2.2.2.2.2.2.2.2.2.2.1.map dat0), (u14.2.2.2.2.2.2.2.2.2.2.2.2.1.map dat0), u14.2.2.2.2.2.2.2.2.2.2.2.2.2))) | _ => none) | none => none) else none) | none => none) | none => none) else none) | false => (ke (u14.1, u14.2.2.2.1, u14.2.2.2.2.1, u14.2.2.2.2.2.2.2.1, u14.2.2.2.2.2.2.2.2.1, u14.2.2.2.2.2.2.2.2.2.1, u14.2.2.2.2.2.2.2.2.2.2.1, (u14.2.2.2.2.2.2.2.2.2.2.2.1.map dat0), (u14.2.2.2.2.2.2.2.2.2.2.2.2.1.map dat0))))
abbrev zl6 (N : Nat) (x : qL × qL × Int × Int × Int × Int × Int × qL × Nat × qL × Nat × qA × qA × qL) : Option ((qL × Int × Int × qL × Nat × qL × Nat × qA × qA)) := (zZ N).L N x
def ZK (N : Nat) : LSpec where
 X := qL × Int × Int × qL × Nat × qL × Nat × qA × qA
 Y := (qL × Nat × qL × Nat × qA × qA)
 p := fun s => zej s.env.length 58 <| zej s.nin 6 <| jb 1 (s.at 11) fun a0 => pFn 46 (s.at 0) fun c4 c5 => zQ c4 <| zQ c5 <| za9 1 0 (s.at 2) <| za9 2 0 (s.at 3) <| za9 3 0 (s.at 4) <| Jk .i64 (s.at 12) fun a1 => Jk .i64 (s.at 13) fun a2 => ZX (s.bx 0) fun c12 => zk c12 fun c14 c15 => jb 1 c14 fun a3 => zQ c15 <| ZX (s.bx 1) fun c16 => zk c16 fun c18 c19 => zho 4 1 c18 fun a4 => zQ c19 <| ZX (s.bx 2) fun c20 => zk c20 fun c22 c23 => jb 25 c22 fun a5 => zQ c23 <| ZX (s.bx 3) fun c24 => zk c24 fun c26 c27 => zho 5 1 c26 fun a6 => zQ c27 <| ZX (s.bx 4) fun a7 => ZX (s.bx 5) fun a8 => some (a0, a1, a2, a3, a4, a5, a6, a7, a8)
 st := fun u2 => mkS 58 [(11, (AV.list 1 u2.1 none)), (0, (AV.fn (.func 46) [] [])), (2, (AV.ptr 1 0)), (3, (AV.ptr 2 0)), (4, (AV.ptr 3 0)), (12, (qI u2.2.1)), (13, (qI u2.2.2.1))] [(0, [(AV.list 1 u2.2.2.2.1 none)]), (1, [(AV.vs 4 0 u2.2.2.2.2.1 1)]), (2, [(AV.list 25 u2.2.2.2.2.2.1 none)]), (3, [(AV.vs 5 0 u2.2.2.2.2.2.2.1 1)]), (4, u2.2.2.2.2.2.2.2.1), (5, u2.2.2.2.2.2.2.2.2)] (j8 2).1.toks 6
 out := fun y => (.exit 0, mkS 58 [] [(0, [(AV.list 1 y.1 none)]), (1, [(AV.vs 4 0 y.2.1 1)]), (2, [(AV.list 25 y.2.2.1 none)]), (3, [(AV.vs 5 0 y.2.2.2.1 1)]), (4, y.2.2.2.2.1), (5, y.2.2.2.2.2)] (j8 2).2.toks 6)
 b := fun u2 α kn ke => (match (decide (u2.2.2.1 < u2.2.1)) with | true => (if 0 <= u2.2.2.1 then (match u2.1[u2.2.2.1.toNat]? with | some c19 => (match zf1 c19 with | some e20 => (if 0 <= u2.2.2.1 /\ u2.2.2.1 < (u2.2.2.2.2.1 : Int) then (match u2.2.2.2.2.2.2.2.1[((0 + u2.2.2.1.toNat) * 1)]? with | some x21 => (match x21 with | .v (.int q23 n22) => (if q23 = .i64 then (match (decide (n22 >= 0)) with | true => (kn (u2.1, u2.2.1, (i64 (u2.2.2.1 + 1)), u2.2.2.2.1, u2.2.2.2.2.1, u2.2.2.2.2.2.1, u2.2.2.2.2.2.2.1, (u2.2.2.2.2.2.2.2.1.map dat0), (u2.2.2.2.2.2.2.2.2.map dat0))) | false => (match ((e20.1.length : Int) == 0) with | true => (kn (u2.1, u2.2.1, (i64 (u2.2.2.1 + 1)), u2.2.2.2.1, u2.2.2.2.2.1, u2.2.2.2.2.2.1, u2.2.2.2.2.2.2.1, (u2.2.2.2.2.2.2.2.1.map dat0), (u2.2.2.2.2.2.2.2.2.map dat0))) | false => (match zl6 N (u2.1, u2.2.2.2.2.2.1, u2.2.2.1, u2.2.1, u2.2.2.1, (u2.2.2.2.2.2.1.length : Int), 0, u2.2.2.2.1, u2.2.2.2.2.1, u2.2.2.2.2.2.1, u2.2.2.2.2.2.2.1, (u2.2.2.2.2.2.2.2.1.map dat0), (u2.2.2.2.2.2.2.2.2.map dat0), e20.1) with | some y24 => (kn (y24.1, y24.2.1, (i64 (y24.2.2.1 + 1)), y24.2.2.2.1, y24.2.2.2.2.1, y24.2.2.2.2.2.1, y24.2.2.2.2.2.2.1, (y24.2.2.2.2.2.2.2.1.map dat0), (y24.2.2.2.2.2.2.2.2.map dat0))) | none => none))) else none) | _ => none) | none => none) else none) | none => none) | none => none) else none) | false => (ke (u2.2.2.2.1, u2.2.2.2.2.1, u2.2.2.2.2.2.1, u2.2.2.2.2.2.2.1, (u2.2.2.2.2.2.2.2.1.map dat0), (u2.2.2.2.2.2.2.2.2.map dat0))))
abbrev zvT (N : Nat) (x : qL × Int × Int × qL × Nat × qL × Nat × qA × qA) : Option ((qL × Nat × qL × Nat × qA × qA)) := (ZK N).L N x
def zdT (N : Nat) : FSpec where
 X := qL × Nat × qL × Nat × qA × qA
 Y := qL × Nat × qL × Nat × qA × qA
 ash := [[none], [none], [none], [none], [none]]
 bsh := [[some 1], [none], [some 25], [none], [], []]
 S := ⟨[], [[some 1], [some 2000001], [some 25], [some 2000001], [], []], [], [], [4, 5]⟩
 pat := fun a b => zk a fun v1 c2 => pFn 46 v1 fun c3 c4 => zQ c3 <| zQ c4 <| zk c2 fun v5 c6 => za9 0 0 v5 <| zk c6 fun v7 c8 => za9 1 0 v7 <| zk c8 fun v9 c10 => za9 2 0 v9 <| zk c10 fun v11 c12 => za9 3 0 v11 <| zQ c12 <| zk b fun v13 c14 => zk v13 fun c15 c16 => jb 1 c15 fun a0 => zQ c16 <| zk c14 fun v17 c18 => zk v17 fun c19 c20 => zho 4 1 c19 fun a1 => zQ c20 <| zk c18 fun v21 c22 => zk v21 fun c23 c24 => jb 25 c23 fun a2 => zQ c24 <| zk c22 fun v25 c26 => zk v25 fun c27 c28 => zho 5 1 c27 fun a3 => zQ c28 <| zk c26 fun a4 c29 => zk c29 fun a5 c30 => zQ c30 <| some (a0, a1, a2, a3, a4, a5)
 args := fun x => [(AV.fn (.func 46) [] []), (AV.ptr 0 0), (AV.ptr 1 0), (AV.ptr 2 0), (AV.ptr 3 0)]
 bs := fun x => [[(AV.list 1 x.1 none)], [(AV.vs 4 0 x.2.1 1)], [(AV.list 25 x.2.2.1 none)], [(AV.vs 5 0 x.2.2.2.1 1)], x.2.2.2.2.1, x.2.2.2.2.2]
 ret := fun y => ⟨(AV.tup []), [[(AV.list 1 y.1 none)], [(AV.vs 4 0 y.2.1 1)], [(AV.list 25 y.2.2.1 none)], [(AV.vs 5 0 y.2.2.2.1 1)], y.2.2.2.2.1, y.2.2.2.2.2], none, [], [], [4, 5], none⟩
 t := fun x α k => (match zvT N (x.1, (x.1.length : Int), 0, x.1, x.2.1, x.2.2.1, x.2.2.2.1, (x.2.2.2.2.1.map dat0), (x.2.2.2.2.2.map dat0)) with | some y25 => (k (y25.1, y25.2.1, y25.2.2.1, y25.2.2.2.1, (y25.2.2.2.2.1.map dat0), (y25.2.2.2.2.2.map dat0))) | none => none)
abbrev zw0 (N : Nat) (x : qL × Nat × qL × Nat × qA × qA) : Option (qL × Nat × qL × Nat × qA × qA) := (zdT N).d x
def zbV (N : Nat) : List (Nat × LSpec) := [(2, ZK N), (14, zZ N)]
def zfd : Code := Tryd.f45.body.getD .skip
theorem znx (N : Nat) : Par (zZ N).b := by
 intro x α β kn ke kn' ke' r r' h h1 h2
 revert h
 dsimp only [zZ]
 (repeat' (first | (with_reducible refine ze ?_ ?_) | split)) <;> intro h <;> first | exact h1 _ h | exact h2 _ h | cases h
theorem zkm (N : Nat) : jc (zn qP) (zyb N) j8 N (zbV N) 14 zfd (zZ N) := fun x α kn ke => by kernel_rfl
theorem znZ (N : Nat) (s : AS) (x : (zZ N).X) (hc : s = ZH (j8 14).1 s) (h : (zZ N).p s = some x) : s = (zZ N).st x := by
 replace h : zej _ _ _ = some x := h
 obtain ⟨h1, g0⟩ := jt h
 obtain ⟨h2, g1⟩ := jt g0; clear g0
 obtain ⟨a0, h3, g2⟩ := zq g1; clear g1
 obtain ⟨a1, h4, g3⟩ := zq g2; clear g2
 obtain ⟨c5, c6, h7, g4⟩ := zao g3; clear g3
 obtain ⟨rfl, g5⟩ := zg g4; clear g4
 obtain ⟨rfl, g6⟩ := zg g5; clear g5
 obtain ⟨h8, g7⟩ := Za g6; clear g6
 obtain ⟨h9, g8⟩ := Za g7; clear g7
 obtain ⟨h10, g9⟩ := Za g8; clear g8
 obtain ⟨a2, h11, g10⟩ := zG g9; clear g9
 obtain ⟨h12, g11⟩ := Za g10; clear g10
 obtain ⟨a3, h13, g12⟩ := zG g11; clear g11
 obtain ⟨a4, h14, g13⟩ := zG g12; clear g12
 obtain ⟨a5, h15, g14⟩ := zG g13; clear g13
 obtain ⟨a6, h16, g15⟩ := zG g14; clear g14
 obtain ⟨c17, h18, g16⟩ := zN g15; clear g15
 obtain ⟨c19, c20, rfl, g17⟩ := zb g16; clear g16
 obtain ⟨a7, rfl, g18⟩ := zq g17; clear g17
 obtain ⟨rfl, g19⟩ := zg g18; clear g18
 obtain ⟨c21, h22, g20⟩ := zN g19; clear g19
 obtain ⟨c23, c24, rfl, g21⟩ := zb g20; clear g20
 obtain ⟨a8, rfl, g22⟩ := jf g21; clear g21
 obtain ⟨rfl, g23⟩ := zg g22; clear g22
 obtain ⟨c25, h26, g24⟩ := zN g23; clear g23
 obtain ⟨c27, c28, rfl, g25⟩ := zb g24; clear g24
 obtain ⟨a9, rfl, g26⟩ := zq g25; clear g25
 obtain ⟨rfl, g27⟩ := zg g26; clear g26
 obtain ⟨c29, h30, g28⟩ := zN g27; clear g27
 obtain ⟨c31, c32, rfl, g29⟩ := zb g28; clear g28
 obtain ⟨a10, rfl, g30⟩ := jf g29; clear g29
 obtain ⟨rfl, g31⟩ := zg g30; clear g30
 obtain ⟨a11, h33, g32⟩ := zN g31; clear g31
 obtain ⟨a12, h34, g33⟩ := zN g32; clear g32
 obtain ⟨c35, h36, g34⟩ := zN g33; clear g33
 obtain ⟨c37, c38, rfl, g35⟩ := zb g34; clear g34
 obtain ⟨a13, rfl, g36⟩ := zq g35; clear g35
 obtain ⟨rfl, g37⟩ := zg g36; clear g36
 clear h
 cases g37
 exact JB hc h1 h2 rfl rfl rfl rfl ⟨h3, h4, h7, h8, h9, h10, h11, h12, h13, h14, h15, h16, trivial⟩ ⟨h18, h22, h26, h30, h33, h34, h36, trivial⟩
theorem zeg (N : Nat) : ZE qP j8 N (zbV N) 14 (zc 14 zfd) :=
 zD (zd qP) (zi _) zl j8 N (zbV N) 14 zfd (l := []) (by kernel_rfl) (by kernel_rfl) an (zZ N) rfl (znZ N) (fun _ => rfl) (zkm N) (znx N)
theorem zss (N : Nat) : Par (ZK N).b := by
 intro x α β kn ke kn' ke' r r' h h1 h2
 revert h
 dsimp only [ZK]
 (repeat' (first | (with_reducible refine ze ?_ ?_) | split)) <;> intro h <;> first | exact h1 _ h | exact h2 _ h | cases h
theorem zob (N : Nat) : jc (zn qP) (zyb N) j8 N (zbV N) 2 zfd (ZK N) := fun x α kn ke => by kernel_rfl
theorem ztB (N : Nat) (s : AS) (x : (ZK N).X) (hc : s = ZH (j8 2).1 s) (h : (ZK N).p s = some x) : s = (ZK N).st x := by
 replace h : zej _ _ _ = some x := h
 obtain ⟨h1, g0⟩ := jt h
 obtain ⟨h2, g1⟩ := jt g0; clear g0
 obtain ⟨a0, h3, g2⟩ := zq g1; clear g1
 obtain ⟨c4, c5, h6, g3⟩ := zao g2; clear g2
 obtain ⟨rfl, g4⟩ := zg g3; clear g3
 obtain ⟨rfl, g5⟩ := zg g4; clear g4
 obtain ⟨h7, g6⟩ := Za g5; clear g5
 obtain ⟨h8, g7⟩ := Za g6; clear g6
 obtain ⟨h9, g8⟩ := Za g7; clear g7
 obtain ⟨a1, h10, g9⟩ := zG g8; clear g8
 obtain ⟨a2, h11, g10⟩ := zG g9; clear g9
 obtain ⟨c12, h13, g11⟩ := zN g10; clear g10
 obtain ⟨c14, c15, rfl, g12⟩ := zb g11; clear g11
 obtain ⟨a3, rfl, g13⟩ := zq g12; clear g12
 obtain ⟨rfl, g14⟩ := zg g13; clear g13
 obtain ⟨c16, h17, g15⟩ := zN g14; clear g14
 obtain ⟨c18, c19, rfl, g16⟩ := zb g15; clear g15
 obtain ⟨a4, rfl, g17⟩ := jf g16; clear g16
 obtain ⟨rfl, g18⟩ := zg g17; clear g17
 obtain ⟨c20, h21, g19⟩ := zN g18; clear g18
 obtain ⟨c22, c23, rfl, g20⟩ := zb g19; clear g19
 obtain ⟨a5, rfl, g21⟩ := zq g20; clear g20
 obtain ⟨rfl, g22⟩ := zg g21; clear g21
 obtain ⟨c24, h25, g23⟩ := zN g22; clear g22
 obtain ⟨c26, c27, rfl, g24⟩ := zb g23; clear g23
 obtain ⟨a6, rfl, g25⟩ := jf g24; clear g24
 obtain ⟨rfl, g26⟩ := zg g25; clear g25
 obtain ⟨a7, h28, g27⟩ := zN g26; clear g26
 obtain ⟨a8, h29, g28⟩ := zN g27; clear g27
 clear h
 cases g28
 exact JB hc h1 h2 rfl rfl rfl rfl ⟨h3, h6, h7, h8, h9, h10, h11, trivial⟩ ⟨h13, h17, h21, h25, h28, h29, trivial⟩
theorem zm9 (N : Nat) : ZE qP j8 N (zbV N) 2 (zc 2 zfd) :=
 zD (zd qP) (zi _) zl j8 N (zbV N) 2 zfd (l := [(14, zc 14 zfd)]) (by kernel_rfl) (by kernel_rfl) (al (zeg N) an) (ZK N) rfl (ztB N) (fun _ => rfl) (zob N) (zss N)
theorem zsY (N : Nat) : Zd (zdT N).t := by
 intro x α β k k' r r' h h1
 revert h
 dsimp only [zdT]
 (repeat' (first | (with_reducible refine ze ?_ ?_) | split)) <;> intro h <;> first | exact h1 _ h | cases h
theorem zs0 (N : Nat) : Zf (zn qP) (zyb N) j8 (lam N (zbV N)) Tryd.f45 (zdT N) := fun x => by kernel_rfl
theorem zxF (N : Nat) (a : List AV) (b : qL) (x : (zdT N).X) (h : (zdT N).pat a b = some x) : a = (zdT N).args x /\ b = (zdT N).bs x := by
 obtain ⟨v1, c2, rfl, g0⟩ := zb (show zk _ _ = some x from h)
 obtain ⟨c3, c4, rfl, g1⟩ := zao g0; clear g0
 obtain ⟨rfl, g2⟩ := zg g1; clear g1
 obtain ⟨rfl, g3⟩ := zg g2; clear g2
 obtain ⟨v5, c6, rfl, g4⟩ := zb g3; clear g3
 obtain ⟨rfl, g5⟩ := Za g4; clear g4
 obtain ⟨v7, c8, rfl, g6⟩ := zb g5; clear g5
 obtain ⟨rfl, g7⟩ := Za g6; clear g6
 obtain ⟨v9, c10, rfl, g8⟩ := zb g7; clear g7
 obtain ⟨rfl, g9⟩ := Za g8; clear g8
 obtain ⟨v11, c12, rfl, g10⟩ := zb g9; clear g9
 obtain ⟨rfl, g11⟩ := Za g10; clear g10
 obtain ⟨rfl, g12⟩ := zg g11; clear g11
 obtain ⟨v13, c14, rfl, g13⟩ := zb g12; clear g12
 obtain ⟨c15, c16, rfl, g14⟩ := zb g13; clear g13
 obtain ⟨a0, rfl, g15⟩ := zq g14; clear g14
 obtain ⟨rfl, g16⟩ := zg g15; clear g15
 obtain ⟨v17, c18, rfl, g17⟩ := zb g16; clear g16
 obtain ⟨c19, c20, rfl, g18⟩ := zb g17; clear g17
 obtain ⟨a1, rfl, g19⟩ := jf g18; clear g18
 obtain ⟨rfl, g20⟩ := zg g19; clear g19
 obtain ⟨v21, c22, rfl, g21⟩ := zb g20; clear g20
 obtain ⟨c23, c24, rfl, g22⟩ := zb g21; clear g21
 obtain ⟨a2, rfl, g23⟩ := zq g22; clear g22
 obtain ⟨rfl, g24⟩ := zg g23; clear g23
 obtain ⟨v25, c26, rfl, g25⟩ := zb g24; clear g24
 obtain ⟨c27, c28, rfl, g26⟩ := zb g25; clear g25
 obtain ⟨a3, rfl, g27⟩ := jf g26; clear g26
 obtain ⟨rfl, g28⟩ := zg g27; clear g27
 obtain ⟨a4, c29, rfl, g29⟩ := zb g28; clear g28
 obtain ⟨a5, c30, rfl, g30⟩ := zb g29; clear g29
 obtain ⟨rfl, g31⟩ := zg g30; clear g30
 clear h
 cases g31
 exact ⟨rfl, rfl⟩
def zDp (N : Nat) : Ent qP := zx (zd qP) (zi _) zl 45 Tryd.f45 Tryd.func45 rfl j8 (lam N (zbV N)) (zm (l := [(2, zc 2 zfd), (14, zc 14 zfd)]) (al (zm9 N) (al (zeg N) an)) (by kernel_rfl)) (zdT N) (fun _ => ⟨rfl, rfl⟩) (zs0 N) (zxF N) (zsY N)
def zbH : Nat -> Keep × Keep := anL [(4, ⟨[3, 7, 8], [], [3], [(0, 9)], [], [], [], [], false, none, []⟩, qK [4] [] [])]
def zBu (N : Nat) : GamK := gam (P := qP) []
def Z5 (N : Nat) : LSpec where
 X := qL × Int × Int × RT1
 Y := (Int) ⊕ (Unit)
 p := fun s => rdS 19 0 [(0, .lst 9), (3, .ptr 3 0), (7, .int .i64), (8, .int .i64)] [(3, .row RK1)] s fun ⟨a0, _, a1, a2, _⟩ ⟨a3, _⟩ => (a0, a1, a2, a3)
 st := fun u4 => mkS 19 [(0, (AV.list 9 u4.1 none)), (3, (AV.ptr 3 0)), (7, (qI u4.2.1)), (8, (qI u4.2.2.1))] [(3, (zw u4.2.2.2))] (zbH 4).1.toks 0
 out := fun y => match y with
  | .inl y => (.ret, mkS 19 [(4, (qI y))] [] (zbH 4).2.toks 0)
  | .inr y => (.exit 0, mkS 19 [] [] (zbH 4).2.toks 0)
 b := fun u4 α kn ke => (match (decide (u4.2.2.1 < u4.2.1)) with | true => (if 0 <= u4.2.2.1 then (match u4.1[u4.2.2.1.toNat]? with | some c1 => (match Jt c1 with | some e2 => (match (((u4.2.2.2.1 == e2.1) && ((u4.2.2.2.2.1 == e2.2.1) && ((u4.2.2.2.2.2.1 == e2.2.2.1) && ((u4.2.2.2.2.2.2.1 == e2.2.2.2.1) && true)))) && ((u4.2.2.2.2.2.2.2.1 == e2.2.2.2.2.1) && ((u4.2.2.2.2.2.2.2.2.1 == e2.2.2.2.2.2.1) && ((u4.2.2.2.2.2.2.2.2.2.1 == e2.2.2.2.2.2.2.1) && ((u4.2.2.2.2.2.2.2.2.2.2.1 == e2.2.2.2.2.2.2.2.1) && ((u4.2.2.2.2.2.2.2.2.2.2.2.1 == e2.2.2.2.2.2.2.2.2.1) && true)))))) with | true => (ke (.inl u4.2.2.1)) | false => (kn (u4.1, u4.2.1, (i64 (u4.2.2.1 + 1)), u4.2.2.2))) | none => none) | none => none) else none) | false => (ke (.inr ())))
abbrev zv5 (N : Nat) (x : qL × Int × Int × RT1) : Option ((Int) ⊕ (Unit)) := (Z5 N).L N x
def zjR (N : Nat) : FSpec where
 X := qL × RT1
 Y := Int
 ash := [[some 9], [none, none, none, none, none, none, none, none, none]]
 S := ⟨[[none]], [], [], [], []⟩
 pat := fun a b => rdA [.lst 9, .agg RK1] [] a b fun ⟨a0, a1, _⟩ _ => (a0, a1)
 args := fun x => [(AV.list 9 x.1 none), (AV.agg (zw x.2))]
 ret := fun y => ⟨(AV.v (.int .i64 y)), [], none, [], [], [], none⟩
 t := fun x α k => (match zv5 N (x.1, (x.1.length : Int), 0, x.2) with | some y3 => (match y3 with | .inl z4 => (k z4) | .inr z5 => (k (-1))) | none => none)
abbrev zAU (N : Nat) (x : qL × RT1) : Option (Int) := (zjR N).d x
def zhg (N : Nat) : List (Nat × LSpec) := [(4, Z5 N)]
def zs4 : Code := Tryd.f95.body.getD .skip
theorem zsP (N : Nat) : Par (Z5 N).b := by
 intro x α β kn ke kn' ke' r r' h h1 h2
 revert h
 dsimp only [Z5]
 (repeat' (first | (with_reducible refine ze ?_ ?_) | split)) <;> intro h <;> first | exact h1 _ h | exact h2 _ h | cases h
theorem zmJ (N : Nat) : jc (zn qP) (zBu N) zbH N (zhg N) 4 zs4 (Z5 N) := fun x α kn ke => by kernel_rfl
theorem zoj (N : Nat) : ZE qP zbH N (zhg N) 4 (zc 4 zs4) :=
 zD (zd qP) (zi _) zl zbH N (zhg N) 4 zs4 (l := []) (by kernel_rfl) (by kernel_rfl) an (Z5 N) rfl (fun s x hc h => by dsimp only [Z5] at h; exact zI hc h (fun _ _ => rfl) rfl rfl rfl) (fun _ => rfl) (zmJ N) (zsP N)
theorem zsH (N : Nat) : Zd (zjR N).t := by
 intro x α β k k' r r' h h1
 revert h
 dsimp only [zjR]
 (repeat' (first | (with_reducible refine ze ?_ ?_) | split)) <;> intro h <;> first | exact h1 _ h | cases h
theorem zrA (N : Nat) : Zf (zn qP) (zBu N) zbH (lam N (zhg N)) Tryd.f95 (zjR N) := fun x => by kernel_rfl
def zDg (N : Nat) : Ent qP := zx (zd qP) (zi _) zl 95 Tryd.f95 Tryd.func95 rfl zbH (lam N (zhg N)) (zm (l := [(4, zc 4 zs4)]) (al (zoj N) an) (by kernel_rfl)) (zjR N) (fun _ => ⟨rfl, rfl⟩) (zrA N) (fun _ _ _ h => zu h (fun _ _ => rfl) (fun _ _ => rfl)) (zsH N)
def zvE : Nat -> Keep × Keep := anL []
def zDl (N : Nat) : GamK := gam (P := qP) [zDg N]
def zle (N : Nat) : FSpec where
 X := qL × RT1
 Y := Bool
 ash := [[some 9], [none, none, none, none, none, none, none, none, none]]
 S := ⟨[[none]], [], [], [], []⟩
 pat := fun a b => rdA [.lst 9, .agg RK1] [] a b fun ⟨a0, a1, _⟩ _ => (a0, a1)
 args := fun x => [(AV.list 9 x.1 none), (AV.agg (zw x.2))]
 ret := fun y => ⟨(AV.v (.bool y)), [], none, [], [], [], none⟩
 t := fun x α k => (match zAU N x with | some y1 => (k (decide (y1 >= 0))) | none => none)
abbrev zxQ (N : Nat) (x : qL × RT1) : Option (Bool) := (zle N).d x
theorem zu1 (N : Nat) : Zd (zle N).t := by
 intro x α β k k' r r' h h1
 revert h
 dsimp only [zle]
 (repeat' (first | (with_reducible refine ze ?_ ?_) | split)) <;> intro h <;> first | exact h1 _ h | cases h
theorem zqW (N : Nat) : Zf (zn qP) (zDl N) zvE (lam N []) Tryd.f71 (zle N) := fun x => by kernel_rfl
def zCr (N : Nat) : Ent qP := zx (zd qP) (zi _) zl 71 Tryd.f71 Tryd.func71 rfl zvE (lam N []) (zm (l := []) an (by kernel_rfl)) (zle N) (fun _ => ⟨rfl, rfl⟩) (zqW N) (fun _ _ _ h => zu h (fun _ _ => rfl) (fun _ _ => rfl)) (zu1 N)
def zv8 : Nat -> Keep × Keep := anL []
def zCe (N : Nat) : GamK := gam (P := qP) [zCr N]
def zkU (N : Nat) : FSpec where
 X := RT1 × RT0
 Y := Bool × RT0
 ash := [[none, none, none, none, none, none, none, none, none], [none]]
 bsh := [[none, none, none, none, none, none, none, none, none, some 9, none, none, none, none, none, none, none, none, none, none, none, none, none, none, none]]
 S := ⟨[[none]], [[]], [], [], []⟩
 pat := fun a b => rdA [.agg RK1, .ptr 0 0] [.row RK0] a b fun ⟨a0, _, _⟩ ⟨a1, _⟩ => (a0, a1)
 args := fun x => [(AV.agg (zw x.1)), (AV.ptr 0 0)]
 bs := fun x => [(zB x.2)]
 ret := fun y => ⟨(AV.v (.bool y.1)), [(zB y.2)], none, [], [], [], none⟩
 t := fun x α k => (match zxQ N (x.2.2.2.2.2.2.2.2.2.2.1, x.1) with | some y1 => (k (y1, x.2)) | none => none)
abbrev zxV (N : Nat) (x : RT1 × RT0) : Option (Bool × RT0) := (zkU N).d x
theorem zuQ (N : Nat) : Zd (zkU N).t := by
 intro x α β k k' r r' h h1
 revert h
 dsimp only [zkU]
 (repeat' (first | (with_reducible refine ze ?_ ?_) | split)) <;> intro h <;> first | exact h1 _ h | cases h
theorem ztr (N : Nat) : Zf (zn qP) (zCe N) zv8 (lam N []) Tryd.f70 (zkU N) := fun x => by kernel_rfl
def zCc (N : Nat) : Ent qP := zx (zd qP) (zi _) zl 70 Tryd.f70 Tryd.func70 rfl zv8 (lam N []) (zm (l := []) an (by kernel_rfl)) (zkU N) (fun _ => ⟨rfl, rfl⟩) (ztr N) (fun _ _ _ h => zu h (fun _ _ => rfl) (fun _ _ => rfl)) (zuQ N)
def zb4 : Nat -> Keep × Keep := anL [(4, ⟨[1, 7, 8], [], [0], [(0, 9)], [], [], [], [], false, none, []⟩, qK [4] [] [0])]
def zAQ (N : Nat) : GamK := gam (P := qP) [zCc N]
def Z4 (N : Nat) : LSpec where
 X := qL × Int × Int × RT0
 Y := (Int × RT0) ⊕ (RT0)
 p := fun s => rdS 19 1 [(0, .lst 9), (1, .fn1 70 0), (7, .int .i64), (8, .int .i64)] [(0, .row RK0)] s fun ⟨a0, _, a1, a2, _⟩ ⟨a3, _⟩ => (a0, a1, a2, a3)
 st := fun u4 => mkS 19 [(0, (AV.list 9 u4.1 none)), (1, (AV.fn (.func 70) [] [(AV.ptr 0 0)])), (7, (qI u4.2.1)), (8, (qI u4.2.2.1))] [(0, (zB u4.2.2.2))] (zb4 4).1.toks 1
 out := fun y => match y with
  | .inl y => (.ret, mkS 19 [(4, (qI y.1))] [(0, (zB y.2))] (zb4 4).2.toks 1)
  | .inr y => (.exit 0, mkS 19 [] [(0, (zB y))] (zb4 4).2.toks 1)
 b := fun u4 α kn ke => (match (decide (u4.2.2.1 < u4.2.1)) with | true => (if 0 <= u4.2.2.1 then (match u4.1[u4.2.2.1.toNat]? with | some c4 => (match Jt c4 with | some e5 => (match zxV N (e5, u4.2.2.2) with | some y6 => (match y6.1 with | true => (ke (.inl (u4.2.2.1, y6.2))) | false => (kn (u4.1, u4.2.1, (i64 (u4.2.2.1 + 1)), y6.2))) | none => none) | none => none) | none => none) else none) | false => (ke (.inr u4.2.2.2)))
abbrev zvV (N : Nat) (x : qL × Int × Int × RT0) : Option ((Int × RT0) ⊕ (RT0)) := (Z4 N).L N x
def zj2 (N : Nat) : FSpec where
 X := qL × RT0
 Y := Int × RT0
 ash := [[some 9], [none]]
 bsh := [[none, none, none, none, none, none, none, none, none, some 9, none, none, none, none, none, none, none, none, none, none, none, none, none, none, none]]
 S := ⟨[[none]], [[]], [], [], []⟩
 pat := fun a b => rdA [.lst 9, .fn1 70 0] [.row RK0] a b fun ⟨a0, _, _⟩ ⟨a1, _⟩ => (a0, a1)
 args := fun x => [(AV.list 9 x.1 none), (AV.fn (.func 70) [] [(AV.ptr 0 0)])]
 bs := fun x => [(zB x.2)]
 ret := fun y => ⟨(AV.v (.int .i64 y.1)), [(zB y.2)], none, [], [], [], none⟩
 t := fun x α k => (match zvV N (x.1, (x.1.length : Int), 0, x.2) with | some y7 => (match y7 with | .inl z8 => (k z8) | .inr z9 => (k ((-1), z9))) | none => none)
abbrev zz0 (N : Nat) (x : qL × RT0) : Option (Int × RT0) := (zj2 N).d x
def zhf (N : Nat) : List (Nat × LSpec) := [(4, Z4 N)]
def zth : Code := Tryd.f94.body.getD .skip
theorem zq5 (N : Nat) : Par (Z4 N).b := by
 intro x α β kn ke kn' ke' r r' h h1 h2
 revert h
 dsimp only [Z4]
 (repeat' (first | (with_reducible refine ze ?_ ?_) | split)) <;> intro h <;> first | exact h1 _ h | exact h2 _ h | cases h
theorem zpL (N : Nat) : jc (zn qP) (zAQ N) zb4 N (zhf N) 4 zth (Z4 N) := fun x α kn ke => by kernel_rfl
theorem zoy (N : Nat) : ZE qP zb4 N (zhf N) 4 (zc 4 zth) :=
 zD (zd qP) (zi _) zl zb4 N (zhf N) 4 zth (l := []) (by kernel_rfl) (by kernel_rfl) an (Z4 N) rfl (fun s x hc h => by dsimp only [Z4] at h; exact zI hc h (fun _ _ => rfl) rfl rfl rfl) (fun _ => rfl) (zpL N) (zq5 N)
theorem zqw (N : Nat) : Zd (zj2 N).t := by
 intro x α β k k' r r' h h1
 revert h
 dsimp only [zj2]
 (repeat' (first | (with_reducible refine ze ?_ ?_) | split)) <;> intro h <;> first | exact h1 _ h | cases h
theorem zuE (N : Nat) : Zf (zn qP) (zAQ N) zb4 (lam N (zhf N)) Tryd.f94 (zj2 N) := fun x => by kernel_rfl
def zCf (N : Nat) : Ent qP := zx (zd qP) (zi _) zl 94 Tryd.f94 Tryd.func94 rfl zb4 (lam N (zhf N)) (zm (l := [(4, zc 4 zth)]) (al (zoy N) an) (by kernel_rfl)) (zj2 N) (fun _ => ⟨rfl, rfl⟩) (zuE N) (fun _ _ _ h => zu h (fun _ _ => rfl) (fun _ _ => rfl)) (zqw N)
def zv3 : Nat -> Keep × Keep := anL []
def zDM (N : Nat) : GamK := gam (P := qP) [zCf N]
def zkM (N : Nat) : FSpec where
 X := qL × RT0
 Y := Bool × RT0
 ash := [[some 9], [none]]
 bsh := [[none, none, none, none, none, none, none, none, none, some 9, none, none, none, none, none, none, none, none, none, none, none, none, none, none, none]]
 S := ⟨[[none]], [[none, none, none, none, none, none, none, none, none, some 9, none, none, none, none, none, none, none, none, none, none, none, none, none, none, none]], [], [], []⟩
 pat := fun a b => rdA [.lst 9, .fn1 70 0] [.row RK0] a b fun ⟨a0, _, _⟩ ⟨a1, _⟩ => (a0, a1)
 args := fun x => [(AV.list 9 x.1 none), (AV.fn (.func 70) [] [(AV.ptr 0 0)])]
 bs := fun x => [(zB x.2)]
 ret := fun y => ⟨(AV.v (.bool y.1)), [(zB y.2)], none, [], [], [], none⟩
 t := fun x α k => (match zz0 N x with | some y1 => (k ((decide (y1.1 >= 0)), y1.2)) | none => none)
abbrev zAs (N : Nat) (x : qL × RT0) : Option (Bool × RT0) := (zkM N).d x
theorem zs2 (N : Nat) : Zd (zkM N).t := by
 intro x α β k k' r r' h h1
 revert h
 dsimp only [zkM]
 (repeat' (first | (with_reducible refine ze ?_ ?_) | split)) <;> intro h <;> first | exact h1 _ h | cases h
theorem zqg (N : Nat) : Zf (zn qP) (zDM N) zv3 (lam N []) Tryd.f69 (zkM N) := fun x => by kernel_rfl
def zDX (N : Nat) : Ent qP := zx (zd qP) (zi _) zl 69 Tryd.f69 Tryd.func69 rfl zv3 (lam N []) (zm (l := []) an (by kernel_rfl)) (zkM N) (fun _ => ⟨rfl, rfl⟩) (zqg N) (fun _ _ _ h => zu h (fun _ _ => rfl) (fun _ _ => rfl)) (zs2 N)
def zvf : Nat -> Keep × Keep := anL []
def zCE (N : Nat) : GamK := gam (P := qP) [zDX N]
def zk8 (N : Nat) : FSpec where
 X := RT0 × RT0
 Y := Bool
 ash := [[none, none, none, none, none, none, none, none, none, some 9, none, none, none, none, none, none, none, none, none, none, none, none, none, none, none], [none, none, none, none, none, none, none, none, none, some 9, none, none, none, none, none, none, none, none, none, none, none, none, none, none, none]]
 S := ⟨[[none]], [], [], [], []⟩
 pat := fun a b => rdA [.agg RK0, .agg RK0] [] a b fun ⟨a0, a1, _⟩ _ => (a0, a1)
 args := fun x => [(AV.agg (zB x.1)), (AV.agg (zB x.2))]
 ret := fun y => ⟨(AV.v (.bool y)), [], none, [], [], [], none⟩
 t := fun x α k => (match zAs N (x.1.2.2.2.2.2.2.2.2.2.1, x.2) with | some y1 => (k y1.1) | none => none)
abbrev zmk (N : Nat) (x : RT0 × RT0) : Option (Bool) := (zk8 N).d x
theorem zud (N : Nat) : Zd (zk8 N).t := by
 intro x α β k k' r r' h h1
 revert h
 dsimp only [zk8]
 (repeat' (first | (with_reducible refine ze ?_ ?_) | split)) <;> intro h <;> first | exact h1 _ h | cases h
theorem zuo (N : Nat) : Zf (zn qP) (zCE N) zvf (lam N []) Tryd.f47 (zk8 N) := fun x => by kernel_rfl
def zCA (N : Nat) : Ent qP := zx (zd qP) (zi _) zl 47 Tryd.f47 Tryd.func47 rfl zvf (lam N []) (zm (l := []) an (by kernel_rfl)) (zk8 N) (fun _ => ⟨rfl, rfl⟩) (zuo N) (fun _ _ _ h => zu h (fun _ _ => rfl) (fun _ _ => rfl)) (zud N)
def ja : Nat -> Keep × Keep := anL [(2, ⟨[0, 2, 3, 4, 12, 13], [], [0, 1, 2, 3, 4, 5], [(11, 1)], [], [], [], [4, 5], false, none, []⟩, ⟨[], [], [0, 1, 2, 3, 4, 5], [], [], [], [], [4, 5], false, none, []⟩), (14, ⟨[0, 2, 3, 4, 6, 7, 12, 13, 30, 31], [], [0, 1, 2, 3, 4, 5, 7], [(11, 1), (29, 25)], [], [], [], [4, 5], false, none, []⟩, ⟨[0, 2, 3, 4, 12, 13], [], [0, 1, 2, 3, 4, 5], [(11, 1)], [], [], [], [4, 5], false, none, []⟩)]
def zoS (N : Nat) : GamK := gam (P := qP) [ztT N, zCA N]
def zR (N : Nat) : LSpec where
 X := qL × qL × Int × Int × Int × Int × Int × qL × Nat × qL × Nat × qA × qA × qL
 Y := (qL × Int × Int × qL × Nat × qL × Nat × qA × qA)
 p := fun s => zej s.env.length 58 <| zej s.nin 6 <| jb 1 (s.at 11) fun a0 => jb 25 (s.at 29) fun a1 => pFn 47 (s.at 0) fun c5 c6 => zQ c5 <| zQ c6 <| za9 1 0 (s.at 2) <| za9 2 0 (s.at 3) <| za9 3 0 (s.at 4) <| Jk .i64 (s.at 6) fun a2 => za9 7 0 (s.at 7) <| Jk .i64 (s.at 12) fun a3 => Jk .i64 (s.at 13) fun a4 => Jk .i64 (s.at 30) fun a5 => Jk .i64 (s.at 31) fun a6 => ZX (s.bx 0) fun c17 => zk c17 fun c19 c20 => jb 1 c19 fun a7 => zQ c20 <| ZX (s.bx 1) fun c21 => zk c21 fun c23 c24 => zho 4 1 c23 fun a8 => zQ c24 <| ZX (s.bx 2) fun c25 => zk c25 fun c27 c28 => jb 25 c27 fun a9 => zQ c28 <| ZX (s.bx 3) fun c29 => zk c29 fun c31 c32 => zho 5 1 c31 fun a10 => zQ c32 <| ZX (s.bx 4) fun a11 => ZX (s.bx 5) fun a12 => ZX (s.bx 7) fun c35 => zk c35 fun c37 c38 => jb 29 c37 fun a13 => zQ c38 <| some (a0, a1, a2, a3, a4, a5, a6, a7, a8, a9, a10, a11, a12, a13)
 st := fun u14 => mkS 58 [(11, (AV.list 1 u14.1 none)), (29, (AV.list 25 u14.2.1 none)), (0, (AV.fn (.func 47) [] [])), (2, (AV.ptr 1 0)), (3, (AV.ptr 2 0)), (4, (AV.ptr 3 0)), (6, (qI u14.2.2.1)), (7, (AV.ptr 7 0)), (12, (qI u14.2.2.2.1)), (13, (qI u14.2.2.2.2.1)), (30, (qI u14.2.2.2.2.2.1)), (31, (qI u14.2.2.2.2.2.2.1))] [(0, [(AV.list 1 u14.2.2.2.2.2.2.2.1 none)]), (1, [(AV.vs 4 0 u14.2.2.2.2.2.2.2.2.1 1)]), (2, [(AV.list 25 u14.2.2.2.2.2.2.2.2.2.1 none)]), (3, [(AV.vs 5 0 u14.2.2.2.2.2.2.2.2.2.2.1 1)]), (4, u14.2.2.2.2.2.2.2.2.2.2.2.1), (5, u14.2.2.2.2.2.2.2.2.2.2.2.2.1), (7, [(AV.list 29 u14.2.2.2.2.2.2.2.2.2.2.2.2.2 none)])] (ja 14).1.toks 6
 out := fun y => (.exit 2, mkS 58 [(11, (AV.list 1 y.1 none)), (0, (AV.fn (.func 47) [] [])), (2, (AV.ptr 1 0)), (3, (AV.ptr 2 0)), (4, (AV.ptr 3 0)), (12, (qI y.2.1)), (13, (qI y.2.2.1))] [(0, [(AV.list 1 y.2.2.2.1 none)]), (1, [(AV.vs 4 0 y.2.2.2.2.1 1)]), (2, [(AV.list 25 y.2.2.2.2.2.1 none)]), (3, [(AV.vs 5 0 y.2.2.2.2.2.2.1 1)]), (4, y.2.2.2.2.2.2.2.1), (5, y.2.2.2.2.2.2.2.2)] (ja 14).2.toks 6)
 b := fun u14 α kn ke => (match (decide (u14.2.2.2.2.2.2.1 < u14.2.2.2.2.2.1)) with | true => (if 0 <= u14.2.2.2.2.2.2.1 then (match u14.2.1[u14.2.2.2.2.2.2.1.toNat]? with | some c12 => (match zgT c12 with | some e13 => (if 0 <= u14.2.2.2.2.2.2.1 /\ u14.2.2.2.2.2.2.1 < (u14.2.2.2.2.2.2.2.2.2.2.1 : Int) then (match u14.2.2.2.2.2.2.2.2.2.2.2.2.1[((0 + u14.2.2.2.2.2.2.1.toNat) * 1)]? with | some x14 => (match x14 with | .v (.bool b15) => (match (!b15) with | true => (match zml N u14.2.2.2.2.2.2.2.2.2.2.2.2.2 with | some y16 => (match zmk N ((zy y16), e13) with | some y17 => (match y17 with | true => (if 0 <= u14.2.2.1 /\ u14.2.2.1 < (u14.2.2.2.2.2.2.2.2.1 : Int) then (if ((0 + u14.2.2.1.toNat) * 1) + 1 <= u14.2.2.2.2.2.2.2.2.2.2.2.1.length then (if 0 <= u14.2.2.2.2.2.2.1 /\ u14.2.2.2.2.2.2.1 < (u14.2.2.2.2.2.2.2.2.2.2.1 : Int) then (if ((0 + u14.2.2.2.2.2.2.1.toNat) * 1) + 1 <= u14.2.2.2.2.2.2.2.2.2.2.2.2.1.length then (ke (u14.1, u14.2.2.2.1, u14.2.2.2.2.1, u14.2.2.2.2.2.2.2.1, u14.2.2.2.2.2.2.2.2.1, u14.2.2.2.2.2.2.2.2.2.1, u14.2.2.2.2.2.2.2.2.2.2.1, ((splice u14.2.2.2.2.2.2.2.2.2.2.2.1 ((0 + u14.2.2.1.toNat) * 1) [(AV.v (.int .i64 u14.2.2.2.2.2.2.1))]).map dat0), ((splice u14.2.2.2.2.2.2.2.2.2.2.2.2.1 ((0 + u14.2.2.2.2.2.2.1.toNat) * 1) [(AV.v (.bool true))]).map dat0))) else none) else none) else none) else none) | false => (kn (u14.1, u14.2.1, u14.2.2.1, u14.2.2.2.1, u14.2.2.2.2.1, u14.2.2.2.2.2.1, (i64 (u14.2.2.2.2.2.2.1 + 1)), u14.2.2.2.2.2.2.2.1, u14.2.2.2.2.2.2.2.2.1, u14.2.2.2.2.2.2.2.2.2.1, u14.2.2.2.2.2.2.2.2.2.2.1, (u14.2.2.2.2.2.2.2.2.2.2.2.1.map dat0), (u14.2.2.2.2.2.2.2.2.2.2.2.2.1.map dat0), u14.2.2.2.2.2.2.2.2.2.2.2.2.2))) | none => none) | none => none) | false => (kn (u14.1, u14.2.1, u14.2.2.1, u14.2.2.2.1, u14.2.2.2.2.1, u14.2.2.2.2.2.1, (i64 (u14.2.2.2.2.2.2.1 + 1)), u14.2.2.2.2.2.2.2.1, u14.2.2.2.2.2.2.2.2.1, u14.2.2.2.2.2.2.2.2.2.1, u14.2.2.2.2.2.2.2.2.2.2.1, (u14.2.2.2.2.2.2.2.2.2.2.2.1.map dat0), (u14.2.2.2.2.2.2.2.2.2.2.2.2.1.map dat0), u14.2.2.2.2.2.2.2.2.2.2.2.2.2))) | _ => none) | none => none) else none) | none => none) | none => none) else none) | false => (ke (u14.1, u14.2.2.2.1, u14.2.2.2.2.1, u14.2.2.2.2.2.2.2.1, u14.2.2.2.2.2.2.2.2.1, u14.2.2.2.2.2.2.2.2.2.1, u14.2.2.2.2.2.2.2.2.2.2.1, (u14.2.2.2.2.2.2.2.2.2.2.2.1.map dat0), (u14.2.2.2.2.2.2.2.2.2.2.2.2.1.map dat0))))
abbrev ziF (N : Nat) (x : qL × qL × Int × Int × Int × Int × Int × qL × Nat × qL × Nat × qA × qA × qL) : Option ((qL × Int × Int × qL × Nat × qL × Nat × qA × qA)) := (zR N).L N x
def Zj (N : Nat) : LSpec where
 X := qL × Int × Int × qL × Nat × qL × Nat × qA × qA
 Y := (qL × Nat × qL × Nat × qA × qA)
 p := fun s => zej s.env.length 58 <| zej s.nin 6 <| jb 1 (s.at 11) fun a0 => pFn 47 (s.at 0) fun c4 c5 => zQ c4 <| zQ c5 <| za9 1 0 (s.at 2) <| za9 2 0 (s.at 3) <| za9 3 0 (s.at 4) <| Jk .i64 (s.at 12) fun a1 => Jk .i64 (s.at 13) fun a2 => ZX (s.bx 0) fun c12 => zk c12 fun c14 c15 => jb 1 c14 fun a3 => zQ c15 <| ZX (s.bx 1) fun c16 => zk c16 fun c18 c19 => zho 4 1 c18 fun a4 => zQ c19 <| ZX (s.bx 2) fun c20 => zk c20 fun c22 c23 => jb 25 c22 fun a5 => zQ c23 <| ZX (s.bx 3) fun c24 => zk c24 fun c26 c27 => zho 5 1 c26 fun a6 => zQ c27 <| ZX (s.bx 4) fun a7 => ZX (s.bx 5) fun a8 => some (a0, a1, a2, a3, a4, a5, a6, a7, a8)
 st := fun u2 => mkS 58 [(11, (AV.list 1 u2.1 none)), (0, (AV.fn (.func 47) [] [])), (2, (AV.ptr 1 0)), (3, (AV.ptr 2 0)), (4, (AV.ptr 3 0)), (12, (qI u2.2.1)), (13, (qI u2.2.2.1))] [(0, [(AV.list 1 u2.2.2.2.1 none)]), (1, [(AV.vs 4 0 u2.2.2.2.2.1 1)]), (2, [(AV.list 25 u2.2.2.2.2.2.1 none)]), (3, [(AV.vs 5 0 u2.2.2.2.2.2.2.1 1)]), (4, u2.2.2.2.2.2.2.2.1), (5, u2.2.2.2.2.2.2.2.2)] (ja 2).1.toks 6
 out := fun y => (.exit 0, mkS 58 [] [(0, [(AV.list 1 y.1 none)]), (1, [(AV.vs 4 0 y.2.1 1)]), (2, [(AV.list 25 y.2.2.1 none)]), (3, [(AV.vs 5 0 y.2.2.2.1 1)]), (4, y.2.2.2.2.1), (5, y.2.2.2.2.2)] (ja 2).2.toks 6)
 b := fun u2 α kn ke => (match (decide (u2.2.2.1 < u2.2.1)) with | true => (if 0 <= u2.2.2.1 then (match u2.1[u2.2.2.1.toNat]? with | some c19 => (match zf1 c19 with | some e20 => (if 0 <= u2.2.2.1 /\ u2.2.2.1 < (u2.2.2.2.2.1 : Int) then (match u2.2.2.2.2.2.2.2.1[((0 + u2.2.2.1.toNat) * 1)]? with | some x21 => (match x21 with | .v (.int q23 n22) => (if q23 = .i64 then (match (decide (n22 >= 0)) with | true => (kn (u2.1, u2.2.1, (i64 (u2.2.2.1 + 1)), u2.2.2.2.1, u2.2.2.2.2.1, u2.2.2.2.2.2.1, u2.2.2.2.2.2.2.1, (u2.2.2.2.2.2.2.2.1.map dat0), (u2.2.2.2.2.2.2.2.2.map dat0))) | false => (match ((e20.1.length : Int) == 0) with | true => (kn (u2.1, u2.2.1, (i64 (u2.2.2.1 + 1)), u2.2.2.2.1, u2.2.2.2.2.1, u2.2.2.2.2.2.1, u2.2.2.2.2.2.2.1, (u2.2.2.2.2.2.2.2.1.map dat0), (u2.2.2.2.2.2.2.2.2.map dat0))) | false => (match ziF N (u2.1, u2.2.2.2.2.2.1, u2.2.2.1, u2.2.1, u2.2.2.1, (u2.2.2.2.2.2.1.length : Int), 0, u2.2.2.2.1, u2.2.2.2.2.1, u2.2.2.2.2.2.1, u2.2.2.2.2.2.2.1, (u2.2.2.2.2.2.2.2.1.map dat0), (u2.2.2.2.2.2.2.2.2.map dat0), e20.1) with | some y24 => (kn (y24.1, y24.2.1, (i64 (y24.2.2.1 + 1)), y24.2.2.2.1, y24.2.2.2.2.1, y24.2.2.2.2.2.1, y24.2.2.2.2.2.2.1, (y24.2.2.2.2.2.2.2.1.map dat0), (y24.2.2.2.2.2.2.2.2.map dat0))) | none => none))) else none) | _ => none) | none => none) else none) | none => none) | none => none) else none) | false => (ke (u2.2.2.2.1, u2.2.2.2.2.1, u2.2.2.2.2.2.1, u2.2.2.2.2.2.2.1, (u2.2.2.2.2.2.2.2.1.map dat0), (u2.2.2.2.2.2.2.2.2.map dat0))))
abbrev zo1 (N : Nat) (x : qL × Int × Int × qL × Nat × qL × Nat × qA × qA) : Option ((qL × Nat × qL × Nat × qA × qA)) := (Zj N).L N x
def zak (N : Nat) : FSpec where
 X := qL × Nat × qL × Nat × qA × qA
 Y := qL × Nat × qL × Nat × qA × qA
 ash := [[none], [none], [none], [none], [none]]
 bsh := [[some 1], [none], [some 25], [none], [], []]
 S := ⟨[], [[some 1], [some 2000001], [some 25], [some 2000001], [], []], [], [], [4, 5]⟩
 pat := fun a b => zk a fun v1 c2 => pFn 47 v1 fun c3 c4 => zQ c3 <| zQ c4 <| zk c2 fun v5 c6 => za9 0 0 v5 <| zk c6 fun v7 c8 => za9 1 0 v7 <| zk c8 fun v9 c10 => za9 2 0 v9 <| zk c10 fun v11 c12 => za9 3 0 v11 <| zQ c12 <| zk b fun v13 c14 => zk v13 fun c15 c16 => jb 1 c15 fun a0 => zQ c16 <| zk c14 fun v17 c18 => zk v17 fun c19 c20 => zho 4 1 c19 fun a1 => zQ c20 <| zk c18 fun v21 c22 => zk v21 fun c23 c24 => jb 25 c23 fun a2 => zQ c24 <| zk c22 fun v25 c26 => zk v25 fun c27 c28 => zho 5 1 c27 fun a3 => zQ c28 <| zk c26 fun a4 c29 => zk c29 fun a5 c30 => zQ c30 <| some (a0, a1, a2, a3, a4, a5)
 args := fun x => [(AV.fn (.func 47) [] []), (AV.ptr 0 0), (AV.ptr 1 0), (AV.ptr 2 0), (AV.ptr 3 0)]
 bs := fun x => [[(AV.list 1 x.1 none)], [(AV.vs 4 0 x.2.1 1)], [(AV.list 25 x.2.2.1 none)], [(AV.vs 5 0 x.2.2.2.1 1)], x.2.2.2.2.1, x.2.2.2.2.2]
 ret := fun y => ⟨(AV.tup []), [[(AV.list 1 y.1 none)], [(AV.vs 4 0 y.2.1 1)], [(AV.list 25 y.2.2.1 none)], [(AV.vs 5 0 y.2.2.2.1 1)], y.2.2.2.2.1, y.2.2.2.2.2], none, [], [], [4, 5], none⟩
 t := fun x α k => (match zo1 N (x.1, (x.1.length : Int), 0, x.1, x.2.1, x.2.2.1, x.2.2.2.1, (x.2.2.2.2.1.map dat0), (x.2.2.2.2.2.map dat0)) with | some y25 => (k (y25.1, y25.2.1, y25.2.2.1, y25.2.2.2.1, (y25.2.2.2.2.1.map dat0), (y25.2.2.2.2.2.map dat0))) | none => none)
abbrev zlM (N : Nat) (x : qL × Nat × qL × Nat × qA × qA) : Option (qL × Nat × qL × Nat × qA × qA) := (zak N).d x
def JX (N : Nat) : List (Nat × LSpec) := [(2, Zj N), (14, zR N)]
def zaY : Code := Tryd.f45.body.getD .skip
theorem zkk (N : Nat) : Par (zR N).b := by
 intro x α β kn ke kn' ke' r r' h h1 h2
 revert h
 dsimp only [zR]
 (repeat' (first | (with_reducible refine ze ?_ ?_) | split)) <;> intro h <;> first | exact h1 _ h | exact h2 _ h | cases h
theorem zio (N : Nat) : jc (zn qP) (zoS N) ja N (JX N) 14 zaY (zR N) := fun x α kn ke => by kernel_rfl
theorem zjU (N : Nat) (s : AS) (x : (zR N).X) (hc : s = ZH (ja 14).1 s) (h : (zR N).p s = some x) : s = (zR N).st x := by
 replace h : zej _ _ _ = some x := h
 obtain ⟨h1, g0⟩ := jt h
 obtain ⟨h2, g1⟩ := jt g0; clear g0
 obtain ⟨a0, h3, g2⟩ := zq g1; clear g1
 obtain ⟨a1, h4, g3⟩ := zq g2; clear g2
 obtain ⟨c5, c6, h7, g4⟩ := zao g3; clear g3
 obtain ⟨rfl, g5⟩ := zg g4; clear g4
 obtain ⟨rfl, g6⟩ := zg g5; clear g5
 obtain ⟨h8, g7⟩ := Za g6; clear g6
 obtain ⟨h9, g8⟩ := Za g7; clear g7
 obtain ⟨h10, g9⟩ := Za g8; clear g8
 obtain ⟨a2, h11, g10⟩ := zG g9; clear g9
 obtain ⟨h12, g11⟩ := Za g10; clear g10
 obtain ⟨a3, h13, g12⟩ := zG g11; clear g11
 obtain ⟨a4, h14, g13⟩ := zG g12; clear g12
 obtain ⟨a5, h15, g14⟩ := zG g13; clear g13
 obtain ⟨a6, h16, g15⟩ := zG g14; clear g14
 obtain ⟨c17, h18, g16⟩ := zN g15; clear g15
 obtain ⟨c19, c20, rfl, g17⟩ := zb g16; clear g16
 obtain ⟨a7, rfl, g18⟩ := zq g17; clear g17
 obtain ⟨rfl, g19⟩ := zg g18; clear g18
 obtain ⟨c21, h22, g20⟩ := zN g19; clear g19
 obtain ⟨c23, c24, rfl, g21⟩ := zb g20; clear g20
 obtain ⟨a8, rfl, g22⟩ := jf g21; clear g21
 obtain ⟨rfl, g23⟩ := zg g22; clear g22
 obtain ⟨c25, h26, g24⟩ := zN g23; clear g23
 obtain ⟨c27, c28, rfl, g25⟩ := zb g24; clear g24
 obtain ⟨a9, rfl, g26⟩ := zq g25; clear g25
 obtain ⟨rfl, g27⟩ := zg g26; clear g26
 obtain ⟨c29, h30, g28⟩ := zN g27; clear g27
 obtain ⟨c31, c32, rfl, g29⟩ := zb g28; clear g28
 obtain ⟨a10, rfl, g30⟩ := jf g29; clear g29
 obtain ⟨rfl, g31⟩ := zg g30; clear g30
 obtain ⟨a11, h33, g32⟩ := zN g31; clear g31
 obtain ⟨a12, h34, g33⟩ := zN g32; clear g32
 obtain ⟨c35, h36, g34⟩ := zN g33; clear g33
 obtain ⟨c37, c38, rfl, g35⟩ := zb g34; clear g34
 obtain ⟨a13, rfl, g36⟩ := zq g35; clear g35
 obtain ⟨rfl, g37⟩ := zg g36; clear g36
 clear h
 cases g37
 exact JB hc h1 h2 rfl rfl rfl rfl ⟨h3, h4, h7, h8, h9, h10, h11, h12, h13, h14, h15, h16, trivial⟩ ⟨h18, h22, h26, h30, h33, h34, h36, trivial⟩
theorem zdz (N : Nat) : ZE qP ja N (JX N) 14 (zc 14 zaY) :=
 zD (zd qP) (zi _) zl ja N (JX N) 14 zaY (l := []) (by kernel_rfl) (by kernel_rfl) an (zR N) rfl (zjU N) (fun _ => rfl) (zio N) (zkk N)
theorem zl9 (N : Nat) : Par (Zj N).b := by
 intro x α β kn ke kn' ke' r r' h h1 h2
 revert h
 dsimp only [Zj]
 (repeat' (first | (with_reducible refine ze ?_ ?_) | split)) <;> intro h <;> first | exact h1 _ h | exact h2 _ h | cases h
theorem zlg (N : Nat) : jc (zn qP) (zoS N) ja N (JX N) 2 zaY (Zj N) := fun x α kn ke => by kernel_rfl
theorem zn8 (N : Nat) (s : AS) (x : (Zj N).X) (hc : s = ZH (ja 2).1 s) (h : (Zj N).p s = some x) : s = (Zj N).st x := by
 replace h : zej _ _ _ = some x := h
 obtain ⟨h1, g0⟩ := jt h
 obtain ⟨h2, g1⟩ := jt g0; clear g0
 obtain ⟨a0, h3, g2⟩ := zq g1; clear g1
 obtain ⟨c4, c5, h6, g3⟩ := zao g2; clear g2
 obtain ⟨rfl, g4⟩ := zg g3; clear g3
 obtain ⟨rfl, g5⟩ := zg g4; clear g4
 obtain ⟨h7, g6⟩ := Za g5; clear g5
 obtain ⟨h8, g7⟩ := Za g6; clear g6
 obtain ⟨h9, g8⟩ := Za g7; clear g7
 obtain ⟨a1, h10, g9⟩ := zG g8; clear g8
 obtain ⟨a2, h11, g10⟩ := zG g9; clear g9
 obtain ⟨c12, h13, g11⟩ := zN g10; clear g10
 obtain ⟨c14, c15, rfl, g12⟩ := zb g11; clear g11
 obtain ⟨a3, rfl, g13⟩ := zq g12; clear g12
 obtain ⟨rfl, g14⟩ := zg g13; clear g13
 obtain ⟨c16, h17, g15⟩ := zN g14; clear g14
 obtain ⟨c18, c19, rfl, g16⟩ := zb g15; clear g15
 obtain ⟨a4, rfl, g17⟩ := jf g16; clear g16
 obtain ⟨rfl, g18⟩ := zg g17; clear g17
 obtain ⟨c20, h21, g19⟩ := zN g18; clear g18
 obtain ⟨c22, c23, rfl, g20⟩ := zb g19; clear g19
 obtain ⟨a5, rfl, g21⟩ := zq g20; clear g20
 obtain ⟨rfl, g22⟩ := zg g21; clear g21
 obtain ⟨c24, h25, g23⟩ := zN g22; clear g22
 obtain ⟨c26, c27, rfl, g24⟩ := zb g23; clear g23
 obtain ⟨a6, rfl, g25⟩ := jf g24; clear g24
 obtain ⟨rfl, g26⟩ := zg g25; clear g25
 obtain ⟨a7, h28, g27⟩ := zN g26; clear g26
 obtain ⟨a8, h29, g28⟩ := zN g27; clear g27
 clear h
 cases g28
 exact JB hc h1 h2 rfl rfl rfl rfl ⟨h3, h6, h7, h8, h9, h10, h11, trivial⟩ ⟨h13, h17, h21, h25, h28, h29, trivial⟩
theorem zkR (N : Nat) : ZE qP ja N (JX N) 2 (zc 2 zaY) :=
 zD (zd qP) (zi _) zl ja N (JX N) 2 zaY (l := [(14, zc 14 zaY)]) (by kernel_rfl) (by kernel_rfl) (al (zdz N) an) (Zj N) rfl (zn8 N) (fun _ => rfl) (zlg N) (zl9 N)
theorem zmB (N : Nat) : Zd (zak N).t := by
 intro x α β k k' r r' h h1
 revert h
 dsimp only [zak]
 (repeat' (first | (with_reducible refine ze ?_ ?_) | split)) <;> intro h <;> first | exact h1 _ h | cases h
theorem zlE (N : Nat) : Zf (zn qP) (zoS N) ja (lam N (JX N)) Tryd.f45 (zak N) := fun x => by kernel_rfl
theorem zsR (N : Nat) (a : List AV) (b : qL) (x : (zak N).X) (h : (zak N).pat a b = some x) : a = (zak N).args x /\ b = (zak N).bs x := by
 obtain ⟨v1, c2, rfl, g0⟩ := zb (show zk _ _ = some x from h)
 obtain ⟨c3, c4, rfl, g1⟩ := zao g0; clear g0
 obtain ⟨rfl, g2⟩ := zg g1; clear g1
 obtain ⟨rfl, g3⟩ := zg g2; clear g2
 obtain ⟨v5, c6, rfl, g4⟩ := zb g3; clear g3
 obtain ⟨rfl, g5⟩ := Za g4; clear g4
 obtain ⟨v7, c8, rfl, g6⟩ := zb g5; clear g5
 obtain ⟨rfl, g7⟩ := Za g6; clear g6
 obtain ⟨v9, c10, rfl, g8⟩ := zb g7; clear g7
 obtain ⟨rfl, g9⟩ := Za g8; clear g8
 obtain ⟨v11, c12, rfl, g10⟩ := zb g9; clear g9
 obtain ⟨rfl, g11⟩ := Za g10; clear g10
 obtain ⟨rfl, g12⟩ := zg g11; clear g11
 obtain ⟨v13, c14, rfl, g13⟩ := zb g12; clear g12
 obtain ⟨c15, c16, rfl, g14⟩ := zb g13; clear g13
 obtain ⟨a0, rfl, g15⟩ := zq g14; clear g14
 obtain ⟨rfl, g16⟩ := zg g15; clear g15
 obtain ⟨v17, c18, rfl, g17⟩ := zb g16; clear g16
 obtain ⟨c19, c20, rfl, g18⟩ := zb g17; clear g17
 obtain ⟨a1, rfl, g19⟩ := jf g18; clear g18
 obtain ⟨rfl, g20⟩ := zg g19; clear g19
 obtain ⟨v21, c22, rfl, g21⟩ := zb g20; clear g20
 obtain ⟨c23, c24, rfl, g22⟩ := zb g21; clear g21
 obtain ⟨a2, rfl, g23⟩ := zq g22; clear g22
 obtain ⟨rfl, g24⟩ := zg g23; clear g23
 obtain ⟨v25, c26, rfl, g25⟩ := zb g24; clear g24
 obtain ⟨c27, c28, rfl, g26⟩ := zb g25; clear g25
 obtain ⟨a3, rfl, g27⟩ := jf g26; clear g26
 obtain ⟨rfl, g28⟩ := zg g27; clear g27
 obtain ⟨a4, c29, rfl, g29⟩ := zb g28; clear g28
 obtain ⟨a5, c30, rfl, g30⟩ := zb g29; clear g29
 obtain ⟨rfl, g31⟩ := zg g30; clear g30
 clear h
 cases g31
 exact ⟨rfl, rfl⟩
def zBG (N : Nat) : Ent qP := zx (zd qP) (zi _) zl 45 Tryd.f45 Tryd.func45 rfl ja (lam N (JX N)) (zm (l := [(2, zc 2 zaY), (14, zc 14 zaY)]) (al (zkR N) (al (zdz N) an)) (by kernel_rfl)) (zak N) (fun _ => ⟨rfl, rfl⟩) (zlE N) (zsR N) (zmB N)
def zvd : Nat -> Keep × Keep := anF [] [(100006, ([], [((5, 0), 1)]))]
def zDz (N : Nat) : GamK := gam (P := qP) [zz7 N, zDp N, zBG N]
def zd1 (N : Nat) : FSpec where
 X := qL × qL
 Y := qL
 ash := [[some 1], [some 25]]
 S := ⟨[[some 2000001]], [], [], [], []⟩
 pat := fun a b => zk a fun v1 c2 => ji v1 fun c3 => zk c3 fun c4 c5 => jb 1 c4 fun a0 => zQ c5 <| zk c2 fun v6 c7 => jb 25 v6 fun a1 => zQ c7 <| zQ b <| some (a0, a1)
 args := fun x => [(AV.agg [(AV.list 1 x.1 none)]), (AV.list 25 x.2 none)]
 ret := fun y => ⟨(AV.list 1 y (some 2560000000)), [], none, [], [2560000000], [], none⟩
 t := fun x α k => (match zwm N ([[(AV.v (.int .i64 (-1)))]], (x.1.length : Int)) with | some y1 => (if 0 <= (x.2.length : Int) /\ (x.2.length : Int) <= (x.2.length : Int) /\ (x.2.length : Int).toNat * 1 <= zh then (match zw0 N (x.1, y1.1, x.2, ((x.2.length : Int).toNat), ((y1.2.map dat0).map dat0), ((List.replicate (x.2.length : Int).toNat (AV.v (.bool false))).map dat0)) with | some y2 => (match zlM N (y2.1, y2.2.1, y2.2.2.1, y2.2.2.2.1, (y2.2.2.2.2.1.map dat0), (y2.2.2.2.2.2.map dat0)) with | some y3 => (if y3.2.1 * 1 <= y3.2.2.2.2.1.length then (k (zJ (y3.2.2.2.2.1.take (y3.2.1 * 1)) 1 y3.2.1)) else none) | none => none) | none => none) else none) | none => none)
abbrev zst (N : Nat) (x : qL × qL) : Option (qL) := (zd1 N).d x
theorem zrC (N : Nat) : Zd (zd1 N).t := by
 intro x α β k k' r r' h h1
 revert h
 dsimp only [zd1]
 (repeat' (first | (with_reducible refine ze ?_ ?_) | split)) <;> intro h <;> first | exact h1 _ h | cases h
theorem zsc (N : Nat) : Zf (JL qP [12]) (zDz N) zvd (lam N []) Tryd.f13 (zd1 N) := fun x => by kernel_rfl
theorem zyl (N : Nat) (a : List AV) (b : qL) (x : (zd1 N).X) (h : (zd1 N).pat a b = some x) : a = (zd1 N).args x /\ b = (zd1 N).bs x := by
 obtain ⟨v1, c2, rfl, g0⟩ := zb (show zk _ _ = some x from h)
 obtain ⟨c3, rfl, g1⟩ := zS g0; clear g0
 obtain ⟨c4, c5, rfl, g2⟩ := zb g1; clear g1
 obtain ⟨a0, rfl, g3⟩ := zq g2; clear g2
 obtain ⟨rfl, g4⟩ := zg g3; clear g3
 obtain ⟨v6, c7, rfl, g5⟩ := zb g4; clear g4
 obtain ⟨a1, rfl, g6⟩ := zq g5; clear g5
 obtain ⟨rfl, g7⟩ := zg g6; clear g6
 obtain ⟨rfl, g8⟩ := zg g7; clear g7
 clear h
 cases g8
 exact ⟨rfl, rfl⟩
def zDi (N : Nat) : Ent qP := zx (zK qP [12]) (zi _) zl 13 Tryd.f13 Tryd.func13 rfl zvd (lam N []) (zm (l := []) an (by kernel_rfl)) (zd1 N) (fun _ => ⟨rfl, rfl⟩) (zsc N) (zyl N) (zrC N)
end
end Go.Proofs.YthdgnfcbehcplaaDoor
end
section
namespace Go.Proofs.YthdgnfcbehcplaaDoor
noncomputable section
open Go.RowKit
set_option maxRecDepth 4000
set_option maxHeartbeats 4000000
def zvL : Nat -> Keep × Keep := anL []
def zD5 (N : Nat) : GamK := gam (P := qP) []
def zft (N : Nat) : FSpec where
 X := qL × Int
 Y := Bool
 ash := [[some 1], [none]]
 S := ⟨[[none]], [], [], [], []⟩
 pat := fun a b => zk a fun v1 c2 => ji v1 fun c3 => zk c3 fun c4 c5 => jb 1 c4 fun a0 => zQ c5 <| zk c2 fun v6 c7 => Jk .i64 v6 fun a1 => zQ c7 <| zQ b <| some (a0, a1)
 args := fun x => [(AV.agg [(AV.list 1 x.1 none)]), (AV.v (.int .i64 x.2))]
 ret := fun y => ⟨(AV.v (.bool y)), [], none, [], [], [], none⟩
 t := fun x α k => (match (decide (x.2 >= 0)) with | true => (k (decide (x.2 < (x.1.length : Int)))) | false => (k false))
abbrev zzK (N : Nat) (x : qL × Int) : Option (Bool) := (zft N).d x
theorem zuv (N : Nat) : Zd (zft N).t := by
 intro x α β k k' r r' h h1
 revert h
 dsimp only [zft]
 (repeat' (first | (with_reducible refine ze ?_ ?_) | split)) <;> intro h <;> first | exact h1 _ h | cases h
theorem zsy (N : Nat) : Zf (zn qP) (zD5 N) zvL (lam N []) Tryd.f75 (zft N) := fun x => by kernel_rfl
theorem zx0 (N : Nat) (a : List AV) (b : qL) (x : (zft N).X) (h : (zft N).pat a b = some x) : a = (zft N).args x /\ b = (zft N).bs x := by
 obtain ⟨v1, c2, rfl, g0⟩ := zb (show zk _ _ = some x from h)
 obtain ⟨c3, rfl, g1⟩ := zS g0; clear g0
 obtain ⟨c4, c5, rfl, g2⟩ := zb g1; clear g1
 obtain ⟨a0, rfl, g3⟩ := zq g2; clear g2
 obtain ⟨rfl, g4⟩ := zg g3; clear g3
 obtain ⟨v6, c7, rfl, g5⟩ := zb g4; clear g4
 obtain ⟨a1, rfl, g6⟩ := zG g5; clear g5
 obtain ⟨rfl, g7⟩ := zg g6; clear g6
 obtain ⟨rfl, g8⟩ := zg g7; clear g7
 clear h
 cases g8
 exact ⟨rfl, rfl⟩
def zCH (N : Nat) : Ent qP := zx (zd qP) (zi _) zl 75 Tryd.f75 Tryd.func75 rfl zvL (lam N []) (zm (l := []) an (by kernel_rfl)) (zft N) (fun _ => ⟨rfl, rfl⟩) (zsy N) (zx0 N) (zuv N)
def zwf : Nat -> Keep × Keep := anL []
def zCU (N : Nat) : GamK := gam (P := qP) []
def zpz (N : Nat) : FSpec where
 X := Int
 Y := Bool
 ash := [[none]]
 S := ⟨[[none]], [], [], [], []⟩
 pat := fun a b => rdA [.int .i64] [] a b fun ⟨a0, _⟩ _ => a0
 args := fun x => [(AV.v (.int .i64 x))]
 ret := fun y => ⟨(AV.v (.bool y)), [], none, [], [], [], none⟩
 t := fun x α k => (if 0 <= x /\ x < 7 then (match ((gtab3.map AV.v).drop (x.toNat * 1))[0]? with | some x1 => (match x1 with | .v (.bool b2) => (match b2 with | true => (k true) | false => (k (x == 6))) | _ => none) | none => none) else none)
abbrev zqU (N : Nat) (x : Int) : Option (Bool) := (zpz N).d x
theorem zq0 (N : Nat) : Zd (zpz N).t := by
 intro x α β k k' r r' h h1
 revert h
 dsimp only [zpz]
 (repeat' (first | (with_reducible refine ze ?_ ?_) | split)) <;> intro h <;> first | exact h1 _ h | cases h
theorem zuw (N : Nat) : Zf (zn qP) (zCU N) zwf (lam N []) Tryd.f37 (zpz N) := fun x => by kernel_rfl
def zzI (N : Nat) : Ent qP := zx (zd qP) (zi _) zl 37 Tryd.f37 Tryd.func37 rfl zwf (lam N []) (zm (l := []) an (by kernel_rfl)) (zpz N) (fun _ => ⟨rfl, rfl⟩) (zuw N) (fun _ _ _ h => zu h (fun _ _ => rfl) (fun _ _ => rfl)) (zq0 N)
def jv : Nat -> Keep × Keep := anL [(5, ⟨[2, 3, 11, 12], [], [2, 3], [(10, 1)], [((2, 0), 1)], [], [((3, 0), 1)], [], false, some 2012288, []⟩, ⟨[2, 3], [], [2, 3], [], [((2, 0), 1)], [], [((3, 0), 1)], [], false, some 2012288, []⟩), (16, ⟨[2, 3, 11, 12, 18, 19], [(6, 29)], [2, 3], [(10, 1), (17, 29)], [((2, 0), 1)], [], [((3, 0), 1)], [], false, some 2012288, []⟩, ⟨[2, 3, 11, 12], [(6, 29)], [2, 3], [(10, 1)], [((2, 0), 1)], [], [((3, 0), 1)], [], false, some 2012288, []⟩)]
def zna (N : Nat) : GamK := gam (P := qP) [zsA N]
def Zq (N : Nat) : LSpec where
 X := qL × qL × qL × Int × Int × Int × Int × qL × Nat × qA × Nat × Nat
 Y := (qL × qL × Int × Int × qL × Nat × qA × Nat × Nat)
 p := fun s => rdF 41 0 2012288 [(6, .tok 29 1280000384), (10, .lst 1), (17, .lst 29), (2, .ptr 2 0), (3, .ptr 3 0), (11, .int .i64), (12, .int .i64), (18, .int .i64), (19, .int .i64)] [(2, .cells [.tok 1 6400524288]), (3, .cells [.vs0 2012288 1]), (2012288, .tt)] s fun ⟨a0, a1, a2, _, _, a3, a4, a5, a6, _⟩ ⟨⟨a7, _⟩, ⟨a8, _⟩, a9, _⟩ a10 a11 => (a0, a1, a2, a3, a4, a5, a6, a7, a8, a9, a10, a11)
 st := fun u16 => mkF 41 [(6, (AV.list 29 u16.1 (some 1280000384))), (10, (AV.list 1 u16.2.1 none)), (17, (AV.list 29 u16.2.2.1 none)), (2, (AV.ptr 2 0)), (3, (AV.ptr 3 0)), (11, (qI u16.2.2.2.1)), (12, (qI u16.2.2.2.2.1)), (18, (qI u16.2.2.2.2.2.1)), (19, (qI u16.2.2.2.2.2.2.1))] [(2, [(AV.list 1 u16.2.2.2.2.2.2.2.1 (some 6400524288))]), (3, [(AV.vs 2012288 0 u16.2.2.2.2.2.2.2.2.1 1)]), (2012288, u16.2.2.2.2.2.2.2.2.2.1)] (jv 16).1.toks 0 (some (2012288, u16.2.2.2.2.2.2.2.2.2.2.1, u16.2.2.2.2.2.2.2.2.2.2.2))
 out := fun y => (.exit 2, mkF 41 [(6, (AV.list 29 y.1 (some 1280000384))), (10, (AV.list 1 y.2.1 none)), (2, (AV.ptr 2 0)), (3, (AV.ptr 3 0)), (11, (qI y.2.2.1)), (12, (qI y.2.2.2.1))] [(2, [(AV.list 1 y.2.2.2.2.1 (some 6400524288))]), (3, [(AV.vs 2012288 0 y.2.2.2.2.2.1 1)]), (2012288, y.2.2.2.2.2.2.1)] (jv 16).2.toks 0 (some (2012288, y.2.2.2.2.2.2.2.1, y.2.2.2.2.2.2.2.2)))
 b := fun u16 α kn ke => (match (decide (u16.2.2.2.2.2.2.1 < u16.2.2.2.2.2.1)) with | true => (if 0 <= u16.2.2.2.2.2.2.1 then (match u16.2.2.1[u16.2.2.2.2.2.2.1.toNat]? with | some c6 => (match zk9 c6 with | some e7 => (match zd5 N (zy e7) with | some y8 => (if (u16.1.length + [(zM (e7.1, e7.2.1, e7.2.2.1, e7.2.2.2.1, y8))].length) * 288 <= zh then (kn ((u16.1 ++ [(zM (e7.1, e7.2.1, e7.2.2.1, e7.2.2.2.1, y8))]), u16.2.1, u16.2.2.1, u16.2.2.2.1, u16.2.2.2.2.1, u16.2.2.2.2.2.1, (i64 (u16.2.2.2.2.2.2.1 + 1)), u16.2.2.2.2.2.2.2.1, u16.2.2.2.2.2.2.2.2.1, (u16.2.2.2.2.2.2.2.2.2.1.map datF), u16.2.2.2.2.2.2.2.2.2.2)) else none) | none => none) | none => none) | none => none) else none) | false => (ke (u16.1, u16.2.1, u16.2.2.2.1, u16.2.2.2.2.1, u16.2.2.2.2.2.2.2.1, u16.2.2.2.2.2.2.2.2.1, (u16.2.2.2.2.2.2.2.2.2.1.map datF), u16.2.2.2.2.2.2.2.2.2.2)))
abbrev ziX (N : Nat) (x : qL × qL × qL × Int × Int × Int × Int × qL × Nat × qA × Nat × Nat) : Option ((qL × qL × Int × Int × qL × Nat × qA × Nat × Nat)) := (Zq N).L N x
def ZR (N : Nat) : LSpec where
 X := qL × Int × Int × qL × Nat × qA × Nat × Nat
 Y := (qL × Nat × qA × Nat × Nat)
 p := fun s => rdF 41 0 2012288 [(10, .lst 1), (2, .ptr 2 0), (3, .ptr 3 0), (11, .int .i64), (12, .int .i64)] [(2, .cells [.tok 1 6400524288]), (3, .cells [.vs0 2012288 1]), (2012288, .tt)] s fun ⟨a0, _, _, a1, a2, _⟩ ⟨⟨a3, _⟩, ⟨a4, _⟩, a5, _⟩ a6 a7 => (a0, a1, a2, a3, a4, a5, a6, a7)
 st := fun u5 => mkF 41 [(10, (AV.list 1 u5.1 none)), (2, (AV.ptr 2 0)), (3, (AV.ptr 3 0)), (11, (qI u5.2.1)), (12, (qI u5.2.2.1))] [(2, [(AV.list 1 u5.2.2.2.1 (some 6400524288))]), (3, [(AV.vs 2012288 0 u5.2.2.2.2.1 1)]), (2012288, u5.2.2.2.2.2.1)] (jv 5).1.toks 0 (some (2012288, u5.2.2.2.2.2.2.1, u5.2.2.2.2.2.2.2))
 out := fun y => (.exit 0, mkF 41 [(2, (AV.ptr 2 0)), (3, (AV.ptr 3 0))] [(2, [(AV.list 1 y.1 (some 6400524288))]), (3, [(AV.vs 2012288 0 y.2.1 1)]), (2012288, y.2.2.1)] (jv 5).2.toks 0 (some (2012288, y.2.2.2.1, y.2.2.2.2)))
 b := fun u5 α kn ke => (match (decide (u5.2.2.1 < u5.2.1)) with | true => (if 0 <= u5.2.2.1 then (match u5.1[u5.2.2.1.toNat]? with | some c10 => (match zf1 c10 with | some e11 => (match ziX N (([] : qL), u5.1, e11.1, u5.2.1, u5.2.2.1, (e11.1.length : Int), 0, u5.2.2.2.1, u5.2.2.2.2.1, (u5.2.2.2.2.2.1.map datF), u5.2.2.2.2.2.2) with | some y12 => (if (y12.2.2.2.2.2.2.2.2 = y12.2.2.2.2.2.1 /\ y12.2.2.2.2.2.2.2.1 <= y12.2.2.2.2.2.2.2.2) /\ y12.2.2.2.2.2.1 * 1 <= y12.2.2.2.2.2.2.1.length /\ (y12.2.2.2.2.2.1 + 1) * 24 <= zh then (kn (y12.2.1, y12.2.2.1, (i64 (y12.2.2.2.1 + 1)), y12.2.2.2.2.1, (y12.2.2.2.2.2.1 + 1), ((y12.2.2.2.2.2.2.1.take (y12.2.2.2.2.2.1 * 1) ++ [AV.list 29 y12.1 (some (TOB + y12.2.2.2.2.2.2.2.2))]).map datF), y12.2.2.2.2.2.2.2.1, (y12.2.2.2.2.2.2.2.2 + 1))) else none) | none => none) | none => none) | none => none) else none) | false => (ke (u5.2.2.2.1, u5.2.2.2.2.1, (u5.2.2.2.2.2.1.map datF), u5.2.2.2.2.2.2)))
abbrev znY (N : Nat) (x : qL × Int × Int × qL × Nat × qA × Nat × Nat) : Option ((qL × Nat × qA × Nat × Nat)) := (ZR N).L N x
def zaj (N : Nat) : FSpec where
 X := qL
 Y := Nat × qA × Nat × Nat
 ash := [[some 1]]
 S := ⟨[[some 1]], [], [], [], []⟩
 bm := true
 pat := fun a b => zk a fun v1 c2 => ji v1 fun c3 => zk c3 fun c4 c5 => jb 1 c4 fun a0 => zQ c5 <| zQ c2 <| zQ b <| some a0
 args := fun x => [(AV.agg [(AV.list 1 x none)])]
 ret := fun y => ⟨(AV.agg [(AV.vs 0 0 y.1 1)]), [], some y.2.1, [], [], [], some (y.2.2.1, y.2.2.2)⟩
 t := fun x α k => (match znY N (x, (x.length : Int), 0, ([] : qL), 0, ([] : List AV), 0, 0) with | some y13 => (k (y13.2.1, (y13.2.2.1.map datF), y13.2.2.2)) | none => none)
abbrev ziC (N : Nat) (x : qL) : Option (Nat × qA × Nat × Nat) := (zaj N).d x
def JQ (N : Nat) : List (Nat × LSpec) := [(5, ZR N), (16, Zq N)]
def zaQ : Code := Tryd.f35.body.getD .skip
theorem zjS (N : Nat) : Par (Zq N).b := by
 intro x α β kn ke kn' ke' r r' h h1 h2
 revert h
 dsimp only [Zq]
 (repeat' (first | (with_reducible refine ze ?_ ?_) | split)) <;> intro h <;> first | exact h1 _ h | exact h2 _ h | cases h
theorem zh5 (N : Nat) : jc (JL qP [36, 37]) (zna N) jv N (JQ N) 16 zaQ (Zq N) := fun x α kn ke => by kernel_rfl
theorem zdw (N : Nat) : ZE qP jv N (JQ N) 16 (zc 16 zaQ) :=
 zD (zK qP [36, 37]) (zi _) zl jv N (JQ N) 16 zaQ (l := []) (by kernel_rfl) (by kernel_rfl) an (Zq N) rfl (fun s x hc h => by dsimp only [Zq] at h; exact za0 hc h (fun _ _ _ _ => rfl) rfl rfl) (fun _ => rfl) (zh5 N) (zjS N)
theorem znX (N : Nat) : Par (ZR N).b := by
 intro x α β kn ke kn' ke' r r' h h1 h2
 revert h
 dsimp only [ZR]
 (repeat' (first | (with_reducible refine ze ?_ ?_) | split)) <;> intro h <;> first | exact h1 _ h | exact h2 _ h | cases h
theorem zls (N : Nat) : jc (JL qP [36, 37]) (zna N) jv N (JQ N) 5 zaQ (ZR N) := fun x α kn ke => by kernel_rfl
theorem zjT (N : Nat) : ZE qP jv N (JQ N) 5 (zc 5 zaQ) :=
 zD (zK qP [36, 37]) (zi _) zl jv N (JQ N) 5 zaQ (l := [(16, zc 16 zaQ)]) (by kernel_rfl) (by kernel_rfl) (al (zdw N) an) (ZR N) rfl (fun s x hc h => by dsimp only [ZR] at h; exact za0 hc h (fun _ _ _ _ => rfl) rfl rfl) (fun _ => rfl) (zls N) (znX N)
theorem zou (N : Nat) : Zd (zaj N).t := by
 intro x α β k k' r r' h h1
 revert h
 dsimp only [zaj]
 (repeat' (first | (with_reducible refine ze ?_ ?_) | split)) <;> intro h <;> first | exact h1 _ h | cases h
theorem zoZ (N : Nat) : Zf (JL qP [36, 37]) (zna N) jv (lam N (JQ N)) Tryd.f35 (zaj N) := fun x => by kernel_rfl
theorem zqe (N : Nat) (a : List AV) (b : qL) (x : (zaj N).X) (h : (zaj N).pat a b = some x) : a = (zaj N).args x /\ b = (zaj N).bs x := by
 obtain ⟨v1, c2, rfl, g0⟩ := zb (show zk _ _ = some x from h)
 obtain ⟨c3, rfl, g1⟩ := zS g0; clear g0
 obtain ⟨c4, c5, rfl, g2⟩ := zb g1; clear g1
 obtain ⟨a0, rfl, g3⟩ := zq g2; clear g2
 obtain ⟨rfl, g4⟩ := zg g3; clear g3
 obtain ⟨rfl, g5⟩ := zg g4; clear g4
 obtain ⟨rfl, g6⟩ := zg g5; clear g5
 clear h
 cases g6
 exact ⟨rfl, rfl⟩
def zvz (N : Nat) : Ent qP := zx (zK qP [36, 37]) (zi _) zl 35 Tryd.f35 Tryd.func35 rfl jv (lam N (JQ N)) (zm (l := [(5, zc 5 zaQ), (16, zc 16 zaQ)]) (al (zjT N) (al (zdw N) an)) (by kernel_rfl)) (zaj N) (fun _ => ⟨rfl, rfl⟩) (zoZ N) (zqe N) (zou N)
def ZC : Nat -> Keep × Keep := anF [(2, ⟨[1, 3, 5, 6], [], [3, 5, 6], [], [((6, 0), 1)], [], [], [], true, none, []⟩, ⟨[1, 3, 5, 6, 7], [], [3, 5, 6], [], [((6, 0), 1)], [], [], [], false, none, []⟩), (6, ⟨[1, 3, 5, 6], [], [3, 5, 6], [], [((6, 0), 1)], [], [], [], true, none, []⟩, ⟨[1, 3, 5, 6, 7], [], [3, 5, 6], [], [((6, 0), 1)], [], [], [], false, none, []⟩), (18, ⟨[1, 3, 5, 6, 9], [], [3, 5, 6, 9], [], [((6, 0), 1)], [], [], [], true, none, []⟩, ⟨[1, 3, 5, 6, 9, 63], [], [3, 5, 6, 9], [], [((6, 0), 1)], [], [], [], false, none, []⟩), (27, ⟨[1, 3, 5, 6, 9, 95], [], [3, 5, 6, 9], [], [((6, 0), 1)], [], [], [], true, none, []⟩, ⟨[1, 3, 5, 6], [], [3, 5, 6], [], [((6, 0), 1)], [], [], [], false, none, []⟩)] [(100019, ([], [((10, 0), 1)]))]
def znt (N : Nat) : GamK := gam (P := qP) [zxZ N, zAb N, zBx N, zCH N, zBh N, ztT N, zzI N, zsA N, zvz N]
def zav (N : Nat) : LSpec where
 X := Int × Bool × qL × RT7 × qL × RT7
 Y := (Int × qL × RT7 × qL)
 p := fun s => rdS 120 0 [(1, .int .i64), (3, .ptr 3 0), (5, .ptr 5 0), (6, .ptr 6 0), (9, .ptr 9 0), (95, .bool)] [(3, .cells [.lst 1]), (5, .row RK7), (6, .cells [.tok 1 6401572864]), (9, .row RK7)] s fun ⟨a0, _, _, _, _, a1, _⟩ ⟨⟨a2, _⟩, a3, ⟨a4, _⟩, a5, _⟩ => (a0, a1, a2, a3, a4, a5)
 st := fun u27 => mkS 120 [(1, (qI u27.1)), (3, (AV.ptr 3 0)), (5, (AV.ptr 5 0)), (6, (AV.ptr 6 0)), (9, (AV.ptr 9 0)), (95, (AV.v (.bool u27.2.1)))] [(3, [(AV.list 1 u27.2.2.1 none)]), (5, (zM u27.2.2.2.1)), (6, [(AV.list 1 u27.2.2.2.2.1 (some 6401572864))]), (9, (zM u27.2.2.2.2.2))] (ZC 27).1.toks 0
 out := fun y => (.normal, mkS 120 [(1, (qI y.1)), (3, (AV.ptr 3 0)), (5, (AV.ptr 5 0)), (6, (AV.ptr 6 0))] [(3, [(AV.list 1 y.2.1 none)]), (5, (zM y.2.2.1)), (6, [(AV.list 1 y.2.2.2 (some 6401572864))])] (ZC 27).2.toks 0)
 b := fun u27 α kn ke => (match u27.2.1 with | true => (ke (u27.1, u27.2.2.1, (u27.2.2.2.1.1, u27.2.2.2.1.2.1, u27.2.2.2.1.2.2.1, u27.2.2.2.1.2.2.2.1, u27.2.2.2.2.2.2.2.2.2), u27.2.2.2.2.1)) | false => (ke (u27.1, u27.2.2.1, u27.2.2.2.1, u27.2.2.2.2.1)))
abbrev zw6 (N : Nat) (x : Int × Bool × qL × RT7 × qL × RT7) : Option ((Int × qL × RT7 × qL)) := (zav N).L N x
def zaG (N : Nat) : LSpec where
 X := Int × qL × RT7 × qL × RT7
 Y := (Int × Bool × qL × RT7 × qL × RT7)
 p := fun s => rdS 120 0 [(1, .int .i64), (3, .ptr 3 0), (5, .ptr 5 0), (6, .ptr 6 0), (9, .ptr 9 0)] [(3, .cells [.lst 1]), (5, .row RK7), (6, .cells [.tok 1 6401572864]), (9, .row RK7)] s fun ⟨a0, _, _, _, _, _⟩ ⟨⟨a1, _⟩, a2, ⟨a3, _⟩, a4, _⟩ => (a0, a1, a2, a3, a4)
 st := fun u18 => mkS 120 [(1, (qI u18.1)), (3, (AV.ptr 3 0)), (5, (AV.ptr 5 0)), (6, (AV.ptr 6 0)), (9, (AV.ptr 9 0))] [(3, [(AV.list 1 u18.2.1 none)]), (5, (zM u18.2.2.1)), (6, [(AV.list 1 u18.2.2.2.1 (some 6401572864))]), (9, (zM u18.2.2.2.2))] (ZC 18).1.toks 0
 out := fun y => (.normal, mkS 120 [(1, (qI y.1)), (3, (AV.ptr 3 0)), (5, (AV.ptr 5 0)), (6, (AV.ptr 6 0)), (9, (AV.ptr 9 0)), (63, (AV.v (.bool y.2.1)))] [(3, [(AV.list 1 y.2.2.1 none)]), (5, (zM y.2.2.2.1)), (6, [(AV.list 1 y.2.2.2.2.1 (some 6401572864))]), (9, (zM y.2.2.2.2.2))] (ZC 18).2.toks 0)
 b := fun u18 α kn ke => (match (u18.2.2.1.1 == 5) with | true => (match (u18.2.2.1.2.2.2.1 == u18.1) with | true => (ke (u18.1, true, u18.2)) | false => (match (u18.2.2.1.1 == 6) with | true => (match zqU N u18.2.2.2.2.1 with | some y30 => (ke (u18.1, y30, u18.2)) | none => none) | false => (ke (u18.1, false, u18.2)))) | false => (match (u18.2.2.1.1 == 6) with | true => (match zqU N u18.2.2.2.2.1 with | some y31 => (ke (u18.1, y31, u18.2)) | none => none) | false => (ke (u18.1, false, u18.2))))
abbrev zyz (N : Nat) (x : Int × qL × RT7 × qL × RT7) : Option ((Int × Bool × qL × RT7 × qL × RT7)) := (zaG N).L N x
def zcQ (N : Nat) : LSpec where
 X := Int × qL × RT7 × qL
 Y := (Int × Int × qL × RT7 × qL) ⊕ (Int × qL × RT7 × qL)
 p := fun s => rdS 120 0 [(1, .int .i64), (3, .ptr 3 0), (5, .ptr 5 0), (6, .ptr 6 0)] [(3, .cells [.lst 1]), (5, .row RK7), (6, .cells [.tok 1 6401572864])] s fun ⟨a0, _, _, _, _⟩ ⟨⟨a1, _⟩, a2, ⟨a3, _⟩, _⟩ => (a0, a1, a2, a3)
 st := fun u6 => mkS 120 [(1, (qI u6.1)), (3, (AV.ptr 3 0)), (5, (AV.ptr 5 0)), (6, (AV.ptr 6 0))] [(3, [(AV.list 1 u6.2.1 none)]), (5, (zM u6.2.2.1)), (6, [(AV.list 1 u6.2.2.2 (some 6401572864))])] (ZC 6).1.toks 0
 out := fun y => match y with
  | .inl y => (.ret, mkS 120 [(1, (qI y.1)), (3, (AV.ptr 3 0)), (5, (AV.ptr 5 0)), (6, (AV.ptr 6 0)), (7, (qI y.2.1))] [(3, [(AV.list 1 y.2.2.1 none)]), (5, (zM y.2.2.2.1)), (6, [(AV.list 1 y.2.2.2.2 (some 6401572864))])] (ZC 6).2.toks 0)
  | .inr y => (.normal, mkS 120 [(1, (qI y.1)), (3, (AV.ptr 3 0)), (5, (AV.ptr 5 0)), (6, (AV.ptr 6 0))] [(3, [(AV.list 1 y.2.1 none)]), (5, (zM y.2.2.1)), (6, [(AV.list 1 y.2.2.2 (some 6401572864))])] (ZC 6).2.toks 0)
 b := fun u6 α kn ke => (match zzK N (u6.2.1, u6.1) with | some y17 => (match (!y17) with | true => (ke (.inl (u6.1, 6, u6.2.1, u6.2.2.1, ([] : qL)))) | false => (match (u6.2.2.1.1 == 5) with | true => (match zzK N (u6.2.1, u6.2.2.1.2.2.2.1) with | some y18 => (match (!y18) with | true => (ke (.inl (u6.1, 6, u6.2.1, u6.2.2.1, ([] : qL)))) | false => (ke (.inr u6))) | none => none) | false => (ke (.inr u6)))) | none => none)
abbrev zzw (N : Nat) (x : Int × qL × RT7 × qL) : Option ((Int × Int × qL × RT7 × qL) ⊕ (Int × qL × RT7 × qL)) := (zcQ N).L N x
def zcL (N : Nat) : LSpec where
 X := Int × qL × RT7 × qL
 Y := (Int × Int × qL × RT7 × qL) ⊕ (Int × qL × RT7 × qL)
 p := fun s => rdS 120 0 [(1, .int .i64), (3, .ptr 3 0), (5, .ptr 5 0), (6, .ptr 6 0)] [(3, .cells [.lst 1]), (5, .row RK7), (6, .cells [.tok 1 6401572864])] s fun ⟨a0, _, _, _, _⟩ ⟨⟨a1, _⟩, a2, ⟨a3, _⟩, _⟩ => (a0, a1, a2, a3)
 st := fun u2 => mkS 120 [(1, (qI u2.1)), (3, (AV.ptr 3 0)), (5, (AV.ptr 5 0)), (6, (AV.ptr 6 0))] [(3, [(AV.list 1 u2.2.1 none)]), (5, (zM u2.2.2.1)), (6, [(AV.list 1 u2.2.2.2 (some 6401572864))])] (ZC 2).1.toks 0
 out := fun y => match y with
  | .inl y => (.ret, mkS 120 [(1, (qI y.1)), (3, (AV.ptr 3 0)), (5, (AV.ptr 5 0)), (6, (AV.ptr 6 0)), (7, (qI y.2.1))] [(3, [(AV.list 1 y.2.2.1 none)]), (5, (zM y.2.2.2.1)), (6, [(AV.list 1 y.2.2.2.2 (some 6401572864))])] (ZC 2).2.toks 0)
  | .inr y => (.normal, mkS 120 [(1, (qI y.1)), (3, (AV.ptr 3 0)), (5, (AV.ptr 5 0)), (6, (AV.ptr 6 0))] [(3, [(AV.list 1 y.2.1 none)]), (5, (zM y.2.2.1)), (6, [(AV.list 1 y.2.2.2 (some 6401572864))])] (ZC 2).2.toks 0)
 b := fun u2 α kn ke => (match zmE N u2.2.1 with | some y7 => (match (!y7) with | true => (ke (.inl (u2.1, 1, u2.2.1, u2.2.2.1, ([] : qL)))) | false => (match zuN N u2.2.2.1.2.2.1 with | some y8 => (match (!y8) with | true => (ke (.inl (u2.1, 1, u2.2.1, u2.2.2.1, ([] : qL)))) | false => (match (u2.2.2.1.1 == 3) with | true => (match zny N (zy u2.2.2.1) with | some y9 => (match (!y9) with | true => (ke (.inl (u2.1, 1, u2.2.1, u2.2.2.1, ([] : qL)))) | false => (ke (.inr u2))) | none => none) | false => (ke (.inr u2)))) | none => none)) | none => none)
abbrev zBk (N : Nat) (x : Int × qL × RT7 × qL) : Option ((Int × Int × qL × RT7 × qL) ⊕ (Int × qL × RT7 × qL)) := (zcL N).L N x
def ze7 (N : Nat) : FSpec where
 X := qL × Int × RT7
 Y := qL × Int
 ash := [[some 1], [none], [none, none, none, none, none, none, none, none, none, none, none, none, none, some 9, none, none, none, none, none, none, none, none, none, none, none, none, none, none, none]]
 S := ⟨[[some 1], [none]], [], [], [], []⟩
 pat := fun a b => zk a fun v1 c2 => ji v1 fun c3 => zk c3 fun c4 c5 => jb 1 c4 fun a0 => zQ c5 <| zk c2 fun v6 c7 => Jk .i64 v6 fun a1 => zk c7 fun v8 c9 => zvX RK7 v8 fun a2 => zQ c9 <| zQ b <| some (a0, a1, a2)
 args := fun x => [(AV.agg [(AV.list 1 x.1 none)]), (AV.v (.int .i64 x.2.1)), (AV.agg (zM x.2.2))]
 ret := fun y => ⟨(AV.tup [(AV.agg [(AV.list 1 y.1 none)]), (AV.v (.int .i64 y.2))]), [], none, [], [], [], none⟩
 t := fun x α k => (match zBk N (x.2.1, x.1, x.2.2, ([] : qL)) with | some y10 => (match y10 with | .inl z11 => (k (z11.2.2.2.2, z11.2.1)) | .inr z12 => (match zzw N z12 with | some y19 => (match y19 with | .inl z20 => (k (z20.2.2.2.2, z20.2.1)) | .inr z21 => (match zuY N (z21.2.1, z21.2.2.1.2.1) with | some y22 => (match (y22 != 0) with | true => (k (([] : qL), y22)) | false => (if 0 <= z21.1 then (match z21.2.1[z21.1.toNat]? with | some c23 => (match zf1 c23 with | some e24 => (match zml N e24.1 with | some y25 => (match zyz N (z21.1, z21.2.1, z21.2.2.1, z21.2.2.2, y25) with | some y32 => (match y32.2.1 with | true => (k (([] : qL), 10)) | false => (if 0 <= y32.1 then (match y32.2.2.1[y32.1.toNat]? with | some c33 => (match (c33.drop 0)[0]? with | some x34 => (match ju 29 x34 with | some l35 => (match ((l35.length : Int) == 100) with | true => (k (([] : qL), 8)) | false => (if 0 <= y32.2.2.2.1.1 /\ y32.2.2.2.1.1 < 7 then (match ((gtab2.map AV.v).drop (y32.2.2.2.1.1.toNat * 1))[0]? with | some x36 => (match x36 with | .v (.bool b37) => (match zw6 N (y32.1, b37, y32.2.2) with | some y38 => (match zd5 N (zy y38.2.2.1) with | some y39 => (match ziC N y38.2.1 with | some y40 => (if 0 <= y38.1 /\ y38.1 < (y40.1 : Int) then (match (y40.2.1.map (datJ y40.2.2.1 y40.2.2.2))[(((0 + y38.1.toNat) * 1) + 0)]? with | some c41 => (match c41 with | .list n42 l43 (some q44) => (if n42 = 29 /\ q44 = TOB + (((0 + y38.1.toNat) * 1) + 0) /\ y40.2.2.1 <= (((0 + y38.1.toNat) * 1) + 0) /\ (((0 + y38.1.toNat) * 1) + 0) < y40.2.2.2 then (if (l43.length + [(zM (y38.2.2.1.1, y38.2.2.1.2.1, y38.2.2.1.2.2.1, y38.2.2.1.2.2.2.1, y39))].length) * 288 <= zh then (if 0 <= y38.1 /\ y38.1 < (y40.1 : Int) then (if (((0 + y38.1.toNat) * 1) + 0) + 1 <= (y40.2.1.map (datJ y40.2.2.1 y40.2.2.2)).length then (if y40.1 * 1 <= (splice (y40.2.1.map (datJ y40.2.2.1 y40.2.2.2)) (((0 + y38.1.toNat) * 1) + 0) [(AV.list 29 (l43 ++ [(zM (y38.2.2.1.1, y38.2.2.1.2.1, y38.2.2.1.2.2.1, y38.2.2.1.2.2.2.1, y39))]) (some 7424))]).length then (k ((zJ ((splice (y40.2.1.map (datJ y40.2.2.1 y40.2.2.2)) (((0 + y38.1.toNat) * 1) + 0) [(AV.list 29 (l43 ++ [(zM (y38.2.2.1.1, y38.2.2.1.2.1, y38.2.2.1.2.2.1, y38.2.2.1.2.2.2.1, y39))]) (some 7424))]).take (y40.1 * 1)) 1 y40.1), 0)) else none) else none) else none) else none) else none) | _ => none) | none => none) else none) | none => none) | none => none) | none => none) | _ => none) | none => none) else none)) | none => none) | none => none) | none => none) else none)) | none => none) | none => none) | none => none) | none => none) else none)) | none => none)) | none => none)) | none => none)
abbrev zCZ (N : Nat) (x : qL × Int × RT7) : Option (qL × Int) := (ze7 N).d x
def j5 (N : Nat) : List (Nat × LSpec) := [(2, zcL N), (6, zcQ N), (18, zaG N), (27, zav N)]
def zag : Code := Tryd.f53.body.getD .skip
theorem znU (N : Nat) : Par (zav N).b := by
 intro x α β kn ke kn' ke' r r' h h1 h2
 revert h
 dsimp only [zav]
 (repeat' (first | (with_reducible refine ze ?_ ?_) | split)) <;> intro h <;> first | exact h1 _ h | exact h2 _ h | cases h
theorem zln (N : Nat) : zlv (JL qP [104, 113]) (znt N) ZC N (j5 N) 27 zag (zav N) := fun x α kn ke => by kernel_rfl
theorem zks (N : Nat) : ZE qP ZC N (j5 N) 27 (zc 27 zag) :=
 jU (zK qP [104, 113]) (zi _) zl ZC N (j5 N) 27 zag (l := []) (by kernel_rfl) an (zav N) rfl (fun s x hc h => by dsimp only [zav] at h; exact zI hc h (fun _ _ => rfl) rfl rfl rfl) (zln N) (znU N)
theorem zpm (N : Nat) : Par (zaG N).b := by
 intro x α β kn ke kn' ke' r r' h h1 h2
 revert h
 dsimp only [zaG]
 (repeat' (first | (with_reducible refine ze ?_ ?_) | split)) <;> intro h <;> first | exact h1 _ h | exact h2 _ h | cases h
theorem zjO (N : Nat) : zlv (JL qP [104, 113]) (znt N) ZC N (j5 N) 18 zag (zaG N) := fun x α kn ke => by kernel_rfl
theorem zkp (N : Nat) : ZE qP ZC N (j5 N) 18 (zc 18 zag) :=
 jU (zK qP [104, 113]) (zi _) zl ZC N (j5 N) 18 zag (l := []) (by kernel_rfl) an (zaG N) rfl (fun s x hc h => by dsimp only [zaG] at h; exact zI hc h (fun _ _ => rfl) rfl rfl rfl) (zjO N) (zpm N)
theorem zrL (N : Nat) : Par (zcQ N).b := by
 intro x α β kn ke kn' ke' r r' h h1 h2
 revert h
 dsimp only [zcQ]
 (repeat' (first | (with_reducible refine ze ?_ ?_) | split)) <;> intro h <;> first | exact h1 _ h | exact h2 _ h | cases h
theorem zlH (N : Nat) : zlv (JL qP [104, 113]) (znt N) ZC N (j5 N) 6 zag (zcQ N) := fun x α kn ke => by kernel_rfl
theorem zpp (N : Nat) : ZE qP ZC N (j5 N) 6 (zc 6 zag) :=
 jU (zK qP [104, 113]) (zi _) zl ZC N (j5 N) 6 zag (l := []) (by kernel_rfl) an (zcQ N) rfl (fun s x hc h => by dsimp only [zcQ] at h; exact zI hc h (fun _ _ => rfl) rfl rfl rfl) (zlH N) (zrL N)
theorem zt5 (N : Nat) : Par (zcL N).b := by
 intro x α β kn ke kn' ke' r r' h h1 h2
 revert h
 dsimp only [zcL]
 (repeat' (first | (with_reducible refine ze ?_ ?_) | split)) <;> intro h <;> first | exact h1 _ h | exact h2 _ h | cases h
theorem zoH (N : Nat) : zlv (JL qP [104, 113]) (znt N) ZC N (j5 N) 2 zag (zcL N) := fun x α kn ke => by kernel_rfl
theorem znM (N : Nat) : ZE qP ZC N (j5 N) 2 (zc 2 zag) :=
 jU (zK qP [104, 113]) (zi _) zl ZC N (j5 N) 2 zag (l := []) (by kernel_rfl) an (zcL N) rfl (fun s x hc h => by dsimp only [zcL] at h; exact zI hc h (fun _ _ => rfl) rfl rfl rfl) (zoH N) (zt5 N)
theorem zuG (N : Nat) : Zd (ze7 N).t := by
 intro x α β k k' r r' h h1
 revert h
 dsimp only [ze7]
 (repeat' (first | (with_reducible refine ze ?_ ?_) | split)) <;> intro h <;> first | exact h1 _ h | cases h
theorem zrl (N : Nat) : Zf (JL qP [104, 113]) (znt N) ZC (lam N (j5 N)) Tryd.f53 (ze7 N) := fun x => by kernel_rfl
theorem zw9 (N : Nat) (a : List AV) (b : qL) (x : (ze7 N).X) (h : (ze7 N).pat a b = some x) : a = (ze7 N).args x /\ b = (ze7 N).bs x := by
 obtain ⟨v1, c2, rfl, g0⟩ := zb (show zk _ _ = some x from h)
 obtain ⟨c3, rfl, g1⟩ := zS g0; clear g0
 obtain ⟨c4, c5, rfl, g2⟩ := zb g1; clear g1
 obtain ⟨a0, rfl, g3⟩ := zq g2; clear g2
 obtain ⟨rfl, g4⟩ := zg g3; clear g3
 obtain ⟨v6, c7, rfl, g5⟩ := zb g4; clear g4
 obtain ⟨a1, rfl, g6⟩ := zG g5; clear g5
 obtain ⟨v8, c9, rfl, g7⟩ := zb g6; clear g6
 obtain ⟨a2, rfl, g8⟩ := zda g7; clear g7
 obtain ⟨rfl, g9⟩ := zg g8; clear g8
 obtain ⟨rfl, g10⟩ := zg g9; clear g9
 clear h
 cases g10
 exact ⟨rfl, rfl⟩
def zDV (N : Nat) : Ent qP := zx (zK qP [104, 113]) (zi _) zl 53 Tryd.f53 Tryd.func53 rfl ZC (lam N (j5 N)) (zm (l := [(2, zc 2 zag), (6, zc 6 zag), (18, zc 18 zag), (27, zc 27 zag)]) (al (znM N) (al (zpp N) (al (zkp N) (al (zks N) an)))) (by kernel_rfl)) (ze7 N) (fun _ => ⟨rfl, rfl⟩) (zrl N) (zw9 N) (zuG N)
def Zi : Nat -> Keep × Keep := anF [(16, ⟨[2, 6, 10, 12, 43, 44], [(11, 1)], [6, 10, 36, 39], [(1, 25), (42, 1)], [((6, 0), 1)], [], [], [36, 39], false, some 36, []⟩, ⟨[2, 6, 8, 10, 12], [(11, 1)], [6, 10, 36, 39], [(1, 25), (7, 1)], [((6, 0), 1)], [], [], [36, 39], false, some 36, []⟩), (27, ⟨[2, 6, 10, 12, 13, 14, 15, 16, 43, 44, 58], [(11, 1)], [6, 10, 16, 36, 39], [(1, 25), (42, 1)], [((6, 0), 1)], [], [], [36, 39], true, some 36, []⟩, ⟨[2, 6, 10, 12, 13, 14, 15, 16, 43, 44], [(11, 1)], [6, 10, 16, 36, 39], [(1, 25), (42, 1)], [((6, 0), 1)], [], [], [36, 39], false, some 36, []⟩), (33, ⟨[2, 6, 10, 12, 13, 14, 15, 16, 43, 44, 81], [(11, 1)], [6, 10, 16, 36, 39], [(1, 25), (42, 1)], [((6, 0), 1)], [], [], [36, 39], true, some 36, []⟩, ⟨[2, 6, 10, 12, 13, 15, 43, 44], [(11, 1)], [6, 10, 36, 39], [(1, 25), (42, 1)], [((6, 0), 1)], [], [], [36, 39], false, some 36, []⟩), (35, ⟨[2, 6, 10, 12, 13, 14, 15, 16, 43, 44], [(11, 1)], [6, 10, 16, 36, 39], [(1, 25), (42, 1)], [((6, 0), 1)], [], [], [36, 39], true, some 36, []⟩, ⟨[2, 6, 10, 12, 13, 14, 15, 43, 44], [(11, 1)], [6, 10, 36, 39], [(1, 25), (42, 1)], [((6, 0), 1)], [], [], [36, 39], false, some 36, []⟩), (46, ⟨[2, 6, 10, 12, 130, 131], [(11, 1)], [6, 10, 39], [(129, 25)], [((6, 0), 1)], [], [((10, 0), 1)], [39], false, none, []⟩, ⟨[6, 10], [(11, 1)], [6, 10], [], [((6, 0), 1)], [], [((10, 0), 1)], [], false, none, []⟩)] [(100035, ([], [((10, 0), 1)]))]
def zkV (N : Nat) : GamK := gam (P := qP) [zxZ N, zA0 N, zBh N, zvz N, zDi N, ztT N, zzI N, zAG N, zsA N]
def ZA (N : Nat) : LSpec where
 X := qL × qL × Int × Nat × Int × Int × qL × Nat × qA × qA
 Y := (qL × qL × Nat × qA)
 p := fun s => rdS 166 0 [(11, .tok 1 1280000704), (129, .lst 25), (2, .int .i64), (6, .ptr 6 0), (10, .ptr 10 0), (12, .vs0 39 1), (130, .int .i64), (131, .int .i64)] [(6, .cells [.tok 1 6401572864]), (10, .cells [.vs0 2040960 1]), (39, .tt), (2040960, .tt)] s fun ⟨a0, a1, a2, _, _, a3, a4, a5, _⟩ ⟨⟨a6, _⟩, ⟨a7, _⟩, a8, a9, _⟩ => (a0, a1, a2, a3, a4, a5, a6, a7, a8, a9)
 st := fun u46 => mkS 166 [(11, (AV.list 1 u46.1 (some 1280000704))), (129, (AV.list 25 u46.2.1 none)), (2, (qI u46.2.2.1)), (6, (AV.ptr 6 0)), (10, (AV.ptr 10 0)), (12, (AV.vs 39 0 u46.2.2.2.1 1)), (130, (qI u46.2.2.2.2.1)), (131, (qI u46.2.2.2.2.2.1))] [(6, [(AV.list 1 u46.2.2.2.2.2.2.1 (some 6401572864))]), (10, [(AV.vs 2040960 0 u46.2.2.2.2.2.2.2.1 1)]), (39, u46.2.2.2.2.2.2.2.2.1), (2040960, u46.2.2.2.2.2.2.2.2.2)] (Zi 46).1.toks 0
 out := fun y => (.exit 3, mkS 166 [(11, (AV.list 1 y.1 (some 1280000704))), (6, (AV.ptr 6 0)), (10, (AV.ptr 10 0))] [(6, [(AV.list 1 y.2.1 (some 6401572864))]), (10, [(AV.vs 2040960 0 y.2.2.1 1)]), (2040960, y.2.2.2)] (Zi 46).2.toks 0)
 b := fun u46 α kn ke => (match (decide (u46.2.2.2.2.2.1 < u46.2.2.2.2.1)) with | true => (if 0 <= u46.2.2.2.2.2.1 then (match u46.2.1[u46.2.2.2.2.2.1.toNat]? with | some c100 => (match zgT c100 with | some e101 => (if 0 <= u46.2.2.2.2.2.1 /\ u46.2.2.2.2.2.1 < (u46.2.2.2.1 : Int) then (match u46.2.2.2.2.2.2.2.2.1[((0 + u46.2.2.2.2.2.1.toNat) * 1)]? with | some x102 => (match x102 with | .v (.bool b103) => (match (!b103) with | true => (if (u46.1.length + [[(AV.v (.int .i64 ((u46.2.2.2.2.2.2.2.1 : Nat) : Int)))]].length) * 8 <= zh then (match zd5 N e101 with | some y104 => (if u46.2.2.2.2.2.2.2.1 * 1 <= u46.2.2.2.2.2.2.2.2.2.length /\ (u46.2.2.2.2.2.2.2.1 + [[(AV.list 29 [(zM (1, u46.2.2.1, (⟨#[]⟩ : ByteArray), 0, y104))] none)]].length) * 24 <= zh then (kn ((u46.1 ++ [[(AV.v (.int .i64 ((u46.2.2.2.2.2.2.2.1 : Nat) : Int)))]]), u46.2.1, u46.2.2.1, u46.2.2.2.1, u46.2.2.2.2.1, (i64 (u46.2.2.2.2.2.1 + 1)), u46.2.2.2.2.2.2.1, (u46.2.2.2.2.2.2.2.1 + [[(AV.list 29 [(zM (1, u46.2.2.1, (⟨#[]⟩ : ByteArray), 0, y104))] none)]].length), (u46.2.2.2.2.2.2.2.2.1.map dat0), ((u46.2.2.2.2.2.2.2.2.2.take (u46.2.2.2.2.2.2.2.1 * 1) ++ [[(AV.list 29 [(zM (1, u46.2.2.1, (⟨#[]⟩ : ByteArray), 0, y104))] none)]].flatten).map dat0))) else none) | none => none) else none) | false => (kn (u46.1, u46.2.1, u46.2.2.1, u46.2.2.2.1, u46.2.2.2.2.1, (i64 (u46.2.2.2.2.2.1 + 1)), u46.2.2.2.2.2.2.1, u46.2.2.2.2.2.2.2.1, (u46.2.2.2.2.2.2.2.2.1.map dat0), (u46.2.2.2.2.2.2.2.2.2.map dat0)))) | _ => none) | none => none) else none) | none => none) | none => none) else none) | false => (ke (u46.1, u46.2.2.2.2.2.2.1, u46.2.2.2.2.2.2.2.1, (u46.2.2.2.2.2.2.2.2.2.map dat0))))
abbrev zpJ (N : Nat) (x : qL × qL × Int × Nat × Int × Int × qL × Nat × qA × qA) : Option ((qL × qL × Nat × qA)) := (ZA N).L N x
def jy (N : Nat) : LSpec where
 X := qL × qL × qL × Int × Nat × Int × Int × Nat × Int × Int × qL × Nat × RT7 × qA × qA × Nat × Nat
 Y := (qL × qL × qL × Int × Nat × Int × Int × Nat × Int × Int × qL × Nat × qA × qA × Nat × Nat) ⊕ (qL × qL × qL × Int × Nat × Int × Int × Nat × Int × Int × qL × Nat × qA × qA × Nat × Nat)
 p := fun s => rdF 166 0 36 [(11, .tok 1 1280000704), (1, .lst 25), (42, .lst 1), (2, .int .i64), (6, .ptr 6 0), (10, .ptr 10 0), (12, .vs0 39 1), (13, .int .i64), (14, .int .i64), (15, .ptrV 36), (16, .ptr 16 0), (43, .int .i64), (44, .int .i64)] [(6, .cells [.tok 1 6401572864]), (10, .cells [.vs0 36 1]), (16, .row RK7), (36, .tt), (39, .tt)] s fun ⟨a0, a1, a2, a3, _, _, a4, a5, a6, a7, _, a8, a9, _⟩ ⟨⟨a10, _⟩, ⟨a11, _⟩, a12, a13, a14, _⟩ a15 a16 => (a0, a1, a2, a3, a4, a5, a6, a7, a8, a9, a10, a11, a12, a13, a14, a15, a16)
 st := fun u35 => mkF 166 [(11, (AV.list 1 u35.1 (some 1280000704))), (1, (AV.list 25 u35.2.1 none)), (42, (AV.list 1 u35.2.2.1 none)), (2, (qI u35.2.2.2.1)), (6, (AV.ptr 6 0)), (10, (AV.ptr 10 0)), (12, (AV.vs 39 0 u35.2.2.2.2.1 1)), (13, (qI u35.2.2.2.2.2.1)), (14, (qI u35.2.2.2.2.2.2.1)), (15, (AV.ptr 36 u35.2.2.2.2.2.2.2.1)), (16, (AV.ptr 16 0)), (43, (qI u35.2.2.2.2.2.2.2.2.1)), (44, (qI u35.2.2.2.2.2.2.2.2.2.1))] [(6, [(AV.list 1 u35.2.2.2.2.2.2.2.2.2.2.1 (some 6401572864))]), (10, [(AV.vs 36 0 u35.2.2.2.2.2.2.2.2.2.2.2.1 1)]), (16, (zM u35.2.2.2.2.2.2.2.2.2.2.2.2.1)), (36, u35.2.2.2.2.2.2.2.2.2.2.2.2.2.1), (39, u35.2.2.2.2.2.2.2.2.2.2.2.2.2.2.1)] (Zi 35).1.toks 0 (some (36, u35.2.2.2.2.2.2.2.2.2.2.2.2.2.2.2.1, u35.2.2.2.2.2.2.2.2.2.2.2.2.2.2.2.2))
 out := fun y => match y with
  | .inl y => (.exit 1, mkF 166 [(11, (AV.list 1 y.1 (some 1280000704))), (1, (AV.list 25 y.2.1 none)), (42, (AV.list 1 y.2.2.1 none)), (2, (qI y.2.2.2.1)), (6, (AV.ptr 6 0)), (10, (AV.ptr 10 0)), (12, (AV.vs 39 0 y.2.2.2.2.1 1)), (13, (qI y.2.2.2.2.2.1)), (14, (qI y.2.2.2.2.2.2.1)), (15, (AV.ptr 36 y.2.2.2.2.2.2.2.1)), (43, (qI y.2.2.2.2.2.2.2.2.1)), (44, (qI y.2.2.2.2.2.2.2.2.2.1))] [(6, [(AV.list 1 y.2.2.2.2.2.2.2.2.2.2.1 (some 6401572864))]), (10, [(AV.vs 36 0 y.2.2.2.2.2.2.2.2.2.2.2.1 1)]), (36, y.2.2.2.2.2.2.2.2.2.2.2.2.1), (39, y.2.2.2.2.2.2.2.2.2.2.2.2.2.1)] (Zi 35).2.toks 0 (some (36, y.2.2.2.2.2.2.2.2.2.2.2.2.2.2.1, y.2.2.2.2.2.2.2.2.2.2.2.2.2.2.2)))
  | .inr y => (.normal, mkF 166 [(11, (AV.list 1 y.1 (some 1280000704))), (1, (AV.list 25 y.2.1 none)), (42, (AV.list 1 y.2.2.1 none)), (2, (qI y.2.2.2.1)), (6, (AV.ptr 6 0)), (10, (AV.ptr 10 0)), (12, (AV.vs 39 0 y.2.2.2.2.1 1)), (13, (qI y.2.2.2.2.2.1)), (14, (qI y.2.2.2.2.2.2.1)), (15, (AV.ptr 36 y.2.2.2.2.2.2.2.1)), (43, (qI y.2.2.2.2.2.2.2.2.1)), (44, (qI y.2.2.2.2.2.2.2.2.2.1))] [(6, [(AV.list 1 y.2.2.2.2.2.2.2.2.2.2.1 (some 6401572864))]), (10, [(AV.vs 36 0 y.2.2.2.2.2.2.2.2.2.2.2.1 1)]), (36, y.2.2.2.2.2.2.2.2.2.2.2.2.1), (39, y.2.2.2.2.2.2.2.2.2.2.2.2.2.1)] (Zi 35).2.toks 0 (some (36, y.2.2.2.2.2.2.2.2.2.2.2.2.2.2.1, y.2.2.2.2.2.2.2.2.2.2.2.2.2.2.2)))
 b := fun u35 α kn ke => (if 0 <= u35.2.2.2.2.2.2.2.2.2.2.2.2.1.1 /\ u35.2.2.2.2.2.2.2.2.2.2.2.2.1.1 < 7 then (match ((gtab0.map AV.v).drop (u35.2.2.2.2.2.2.2.2.2.2.2.2.1.1.toNat * 1))[0]? with | some x24 => (match x24 with | .v (.bool b25) => (match b25 with | true => (if 0 <= u35.2.2.2.2.2.2.1 then (match u35.2.1[u35.2.2.2.2.2.2.1.toNat]? with | some c26 => (match zgT c26 with | some e27 => (match zkG N ((zy u35.2.2.2.2.2.2.2.2.2.2.2.2.1), e27) with | some y28 => (match y28 with | true => (ke (.inl (u35.1, u35.2.1, u35.2.2.1, u35.2.2.2.1, u35.2.2.2.2.1, u35.2.2.2.2.2.1, u35.2.2.2.2.2.2.1, u35.2.2.2.2.2.2.2.1, u35.2.2.2.2.2.2.2.2.1, u35.2.2.2.2.2.2.2.2.2.1, u35.2.2.2.2.2.2.2.2.2.2.1, u35.2.2.2.2.2.2.2.2.2.2.2.1, (u35.2.2.2.2.2.2.2.2.2.2.2.2.2.1.map datF), (u35.2.2.2.2.2.2.2.2.2.2.2.2.2.2.1.map dat0), u35.2.2.2.2.2.2.2.2.2.2.2.2.2.2.2))) | false => (ke (.inr (u35.1, u35.2.1, u35.2.2.1, u35.2.2.2.1, u35.2.2.2.2.1, u35.2.2.2.2.2.1, u35.2.2.2.2.2.2.1, u35.2.2.2.2.2.2.2.1, u35.2.2.2.2.2.2.2.2.1, u35.2.2.2.2.2.2.2.2.2.1, u35.2.2.2.2.2.2.2.2.2.2.1, u35.2.2.2.2.2.2.2.2.2.2.2.1, (u35.2.2.2.2.2.2.2.2.2.2.2.2.2.1.map datF), (u35.2.2.2.2.2.2.2.2.2.2.2.2.2.2.1.map dat0), u35.2.2.2.2.2.2.2.2.2.2.2.2.2.2.2)))) | none => none) | none => none) | none => none) else none) | false => (ke (.inr (u35.1, u35.2.1, u35.2.2.1, u35.2.2.2.1, u35.2.2.2.2.1, u35.2.2.2.2.2.1, u35.2.2.2.2.2.2.1, u35.2.2.2.2.2.2.2.1, u35.2.2.2.2.2.2.2.2.1, u35.2.2.2.2.2.2.2.2.2.1, u35.2.2.2.2.2.2.2.2.2.2.1, u35.2.2.2.2.2.2.2.2.2.2.2.1, (u35.2.2.2.2.2.2.2.2.2.2.2.2.2.1.map datF), (u35.2.2.2.2.2.2.2.2.2.2.2.2.2.2.1.map dat0), u35.2.2.2.2.2.2.2.2.2.2.2.2.2.2.2)))) | _ => none) | none => none) else none)
abbrev zfz (N : Nat) (x : qL × qL × qL × Int × Nat × Int × Int × Nat × Int × Int × qL × Nat × RT7 × qA × qA × Nat × Nat) : Option ((qL × qL × qL × Int × Nat × Int × Int × Nat × Int × Int × qL × Nat × qA × qA × Nat × Nat) ⊕ (qL × qL × qL × Int × Nat × Int × Int × Nat × Int × Int × qL × Nat × qA × qA × Nat × Nat)) := (jy N).L N x
def jg (N : Nat) : LSpec where
 X := qL × qL × qL × Int × Nat × Int × Int × Nat × Int × Int × Bool × qL × Nat × RT7 × qA × qA × Nat × Nat
 Y := (qL × qL × qL × Int × Nat × Int × Nat × Int × Int × qL × Nat × qA × qA × Nat × Nat) ⊕ (qL × qL × qL × Int × Nat × Int × Nat × Int × Int × qL × Nat × qA × qA × Nat × Nat)
 p := fun s => rdF 166 0 36 [(11, .tok 1 1280000704), (1, .lst 25), (42, .lst 1), (2, .int .i64), (6, .ptr 6 0), (10, .ptr 10 0), (12, .vs0 39 1), (13, .int .i64), (14, .int .i64), (15, .ptrV 36), (16, .ptr 16 0), (43, .int .i64), (44, .int .i64), (81, .bool)] [(6, .cells [.tok 1 6401572864]), (10, .cells [.vs0 36 1]), (16, .row RK7), (36, .tt), (39, .tt)] s fun ⟨a0, a1, a2, a3, _, _, a4, a5, a6, a7, _, a8, a9, a10, _⟩ ⟨⟨a11, _⟩, ⟨a12, _⟩, a13, a14, a15, _⟩ a16 a17 => (a0, a1, a2, a3, a4, a5, a6, a7, a8, a9, a10, a11, a12, a13, a14, a15, a16, a17)
 st := fun u33 => mkF 166 [(11, (AV.list 1 u33.1 (some 1280000704))), (1, (AV.list 25 u33.2.1 none)), (42, (AV.list 1 u33.2.2.1 none)), (2, (qI u33.2.2.2.1)), (6, (AV.ptr 6 0)), (10, (AV.ptr 10 0)), (12, (AV.vs 39 0 u33.2.2.2.2.1 1)), (13, (qI u33.2.2.2.2.2.1)), (14, (qI u33.2.2.2.2.2.2.1)), (15, (AV.ptr 36 u33.2.2.2.2.2.2.2.1)), (16, (AV.ptr 16 0)), (43, (qI u33.2.2.2.2.2.2.2.2.1)), (44, (qI u33.2.2.2.2.2.2.2.2.2.1)), (81, (AV.v (.bool u33.2.2.2.2.2.2.2.2.2.2.1)))] [(6, [(AV.list 1 u33.2.2.2.2.2.2.2.2.2.2.2.1 (some 6401572864))]), (10, [(AV.vs 36 0 u33.2.2.2.2.2.2.2.2.2.2.2.2.1 1)]), (16, (zM u33.2.2.2.2.2.2.2.2.2.2.2.2.2.1)), (36, u33.2.2.2.2.2.2.2.2.2.2.2.2.2.2.1), (39, u33.2.2.2.2.2.2.2.2.2.2.2.2.2.2.2.1)] (Zi 33).1.toks 0 (some (36, u33.2.2.2.2.2.2.2.2.2.2.2.2.2.2.2.2.1, u33.2.2.2.2.2.2.2.2.2.2.2.2.2.2.2.2.2))
 out := fun y => match y with
  | .inl y => (.exit 1, mkF 166 [(11, (AV.list 1 y.1 (some 1280000704))), (1, (AV.list 25 y.2.1 none)), (42, (AV.list 1 y.2.2.1 none)), (2, (qI y.2.2.2.1)), (6, (AV.ptr 6 0)), (10, (AV.ptr 10 0)), (12, (AV.vs 39 0 y.2.2.2.2.1 1)), (13, (qI y.2.2.2.2.2.1)), (15, (AV.ptr 36 y.2.2.2.2.2.2.1)), (43, (qI y.2.2.2.2.2.2.2.1)), (44, (qI y.2.2.2.2.2.2.2.2.1))] [(6, [(AV.list 1 y.2.2.2.2.2.2.2.2.2.1 (some 6401572864))]), (10, [(AV.vs 36 0 y.2.2.2.2.2.2.2.2.2.2.1 1)]), (36, y.2.2.2.2.2.2.2.2.2.2.2.1), (39, y.2.2.2.2.2.2.2.2.2.2.2.2.1)] (Zi 33).2.toks 0 (some (36, y.2.2.2.2.2.2.2.2.2.2.2.2.2.1, y.2.2.2.2.2.2.2.2.2.2.2.2.2.2)))
  | .inr y => (.normal, mkF 166 [(11, (AV.list 1 y.1 (some 1280000704))), (1, (AV.list 25 y.2.1 none)), (42, (AV.list 1 y.2.2.1 none)), (2, (qI y.2.2.2.1)), (6, (AV.ptr 6 0)), (10, (AV.ptr 10 0)), (12, (AV.vs 39 0 y.2.2.2.2.1 1)), (13, (qI y.2.2.2.2.2.1)), (15, (AV.ptr 36 y.2.2.2.2.2.2.1)), (43, (qI y.2.2.2.2.2.2.2.1)), (44, (qI y.2.2.2.2.2.2.2.2.1))] [(6, [(AV.list 1 y.2.2.2.2.2.2.2.2.2.1 (some 6401572864))]), (10, [(AV.vs 36 0 y.2.2.2.2.2.2.2.2.2.2.1 1)]), (36, y.2.2.2.2.2.2.2.2.2.2.2.1), (39, y.2.2.2.2.2.2.2.2.2.2.2.2.1)] (Zi 33).2.toks 0 (some (36, y.2.2.2.2.2.2.2.2.2.2.2.2.2.1, y.2.2.2.2.2.2.2.2.2.2.2.2.2.2)))
 b := fun u33 α kn ke => (match u33.2.2.2.2.2.2.2.2.2.2.1 with | true => (match zfz N (u33.1, u33.2.1, u33.2.2.1, u33.2.2.2.1, u33.2.2.2.2.1, u33.2.2.2.2.2.1, u33.2.2.2.2.2.2.1, u33.2.2.2.2.2.2.2.1, u33.2.2.2.2.2.2.2.2.1, u33.2.2.2.2.2.2.2.2.2.1, u33.2.2.2.2.2.2.2.2.2.2.2.1, u33.2.2.2.2.2.2.2.2.2.2.2.2.1, u33.2.2.2.2.2.2.2.2.2.2.2.2.2.1, (u33.2.2.2.2.2.2.2.2.2.2.2.2.2.2.1.map datF), (u33.2.2.2.2.2.2.2.2.2.2.2.2.2.2.2.1.map dat0), u33.2.2.2.2.2.2.2.2.2.2.2.2.2.2.2.2) with | some y59 => (match y59 with | .inl z60 => (ke (.inl (z60.1, z60.2.1, z60.2.2.1, z60.2.2.2.1, z60.2.2.2.2.1, z60.2.2.2.2.2.1, z60.2.2.2.2.2.2.2.1, z60.2.2.2.2.2.2.2.2.1, z60.2.2.2.2.2.2.2.2.2.1, z60.2.2.2.2.2.2.2.2.2.2.1, z60.2.2.2.2.2.2.2.2.2.2.2.1, (z60.2.2.2.2.2.2.2.2.2.2.2.2.1.map datF), (z60.2.2.2.2.2.2.2.2.2.2.2.2.2.1.map dat0), z60.2.2.2.2.2.2.2.2.2.2.2.2.2.2))) | .inr z61 => (match z61.2.2.2.2.2.2.2.2.2.2.2.2.1[(z61.2.2.2.2.2.2.2.1 + 0)]? with | some c62 => (match c62 with | .list n63 l64 (some q65) => (if n63 = 29 /\ q65 = TOB + (z61.2.2.2.2.2.2.2.1 + 0) /\ z61.2.2.2.2.2.2.2.2.2.2.2.2.2.2.1 <= (z61.2.2.2.2.2.2.2.1 + 0) /\ (z61.2.2.2.2.2.2.2.1 + 0) < z61.2.2.2.2.2.2.2.2.2.2.2.2.2.2.2 then (if 0 <= z61.2.2.2.2.2.2.1 then (match z61.2.1[z61.2.2.2.2.2.2.1.toNat]? with | some c66 => (match zgT c66 with | some e67 => (match zd5 N e67 with | some y68 => (if (l64.length + [(zM (1, z61.2.2.2.1, (⟨#[]⟩ : ByteArray), 0, y68))].length) * 288 <= zh then (if (z61.2.2.2.2.2.2.2.1 + 0) + 1 <= z61.2.2.2.2.2.2.2.2.2.2.2.2.1.length then (ke (.inr (z61.1, z61.2.1, z61.2.2.1, z61.2.2.2.1, z61.2.2.2.2.1, z61.2.2.2.2.2.1, z61.2.2.2.2.2.2.2.1, z61.2.2.2.2.2.2.2.2.1, z61.2.2.2.2.2.2.2.2.2.1, z61.2.2.2.2.2.2.2.2.2.2.1, z61.2.2.2.2.2.2.2.2.2.2.2.1, ((splice z61.2.2.2.2.2.2.2.2.2.2.2.2.1 (z61.2.2.2.2.2.2.2.1 + 0) [(AV.list 29 (l64 ++ [(zM (1, z61.2.2.2.1, (⟨#[]⟩ : ByteArray), 0, y68))]) (some 7040))]).map datF), (z61.2.2.2.2.2.2.2.2.2.2.2.2.2.1.map dat0), ((z61.2.2.2.2.2.2.2.1 + 0) + 1), z61.2.2.2.2.2.2.2.2.2.2.2.2.2.2.2))) else none) else none) | none => none) | none => none) | none => none) else none) else none) | _ => none) | none => none)) | none => none) | false => (match (u33.2.2.2.2.2.2.2.2.2.2.2.2.2.1.1 == 2) with | true => (ke (.inl (u33.1, u33.2.1, u33.2.2.1, u33.2.2.2.1, u33.2.2.2.2.1, u33.2.2.2.2.2.1, u33.2.2.2.2.2.2.2.1, u33.2.2.2.2.2.2.2.2.1, u33.2.2.2.2.2.2.2.2.2.1, u33.2.2.2.2.2.2.2.2.2.2.2.1, u33.2.2.2.2.2.2.2.2.2.2.2.2.1, (u33.2.2.2.2.2.2.2.2.2.2.2.2.2.2.1.map datF), (u33.2.2.2.2.2.2.2.2.2.2.2.2.2.2.2.1.map dat0), u33.2.2.2.2.2.2.2.2.2.2.2.2.2.2.2.2))) | false => (match u33.2.2.2.2.2.2.2.2.2.2.2.2.2.2.1[(u33.2.2.2.2.2.2.2.1 + 0)]? with | some c69 => (match c69 with | .list n70 l71 (some q72) => (if n70 = 29 /\ q72 = TOB + (u33.2.2.2.2.2.2.2.1 + 0) /\ u33.2.2.2.2.2.2.2.2.2.2.2.2.2.2.2.2.1 <= (u33.2.2.2.2.2.2.2.1 + 0) /\ (u33.2.2.2.2.2.2.2.1 + 0) < u33.2.2.2.2.2.2.2.2.2.2.2.2.2.2.2.2.2 then (match zd5 N (zy u33.2.2.2.2.2.2.2.2.2.2.2.2.2.1) with | some y73 => (if (l71.length + [(zM (2, u33.2.2.2.1, (⟨#[]⟩ : ByteArray), 0, y73))].length) * 288 <= zh then (if (u33.2.2.2.2.2.2.2.1 + 0) + 1 <= u33.2.2.2.2.2.2.2.2.2.2.2.2.2.2.1.length then (ke (.inr (u33.1, u33.2.1, u33.2.2.1, u33.2.2.2.1, u33.2.2.2.2.1, u33.2.2.2.2.2.1, u33.2.2.2.2.2.2.2.1, u33.2.2.2.2.2.2.2.2.1, u33.2.2.2.2.2.2.2.2.2.1, u33.2.2.2.2.2.2.2.2.2.2.2.1, u33.2.2.2.2.2.2.2.2.2.2.2.2.1, ((splice u33.2.2.2.2.2.2.2.2.2.2.2.2.2.2.1 (u33.2.2.2.2.2.2.2.1 + 0) [(AV.list 29 (l71 ++ [(zM (2, u33.2.2.2.1, (⟨#[]⟩ : ByteArray), 0, y73))]) (some 4672))]).map datF), (u33.2.2.2.2.2.2.2.2.2.2.2.2.2.2.2.1.map dat0), ((u33.2.2.2.2.2.2.2.1 + 0) + 1), u33.2.2.2.2.2.2.2.2.2.2.2.2.2.2.2.2.2))) else none) else none) | none => none) else none) | _ => none) | none => none)))
abbrev zfl (N : Nat) (x : qL × qL × qL × Int × Nat × Int × Int × Nat × Int × Int × Bool × qL × Nat × RT7 × qA × qA × Nat × Nat) : Option ((qL × qL × qL × Int × Nat × Int × Nat × Int × Int × qL × Nat × qA × qA × Nat × Nat) ⊕ (qL × qL × qL × Int × Nat × Int × Nat × Int × Int × qL × Nat × qA × qA × Nat × Nat)) := (jg N).L N x
def Jh (N : Nat) : LSpec where
 X := qL × qL × qL × Int × Nat × Int × Int × Nat × Int × Int × Bool × qL × Nat × RT7 × qA × qA × Nat × Nat
 Y := (qL × qL × qL × Int × Nat × Int × Int × Nat × Int × Int × qL × Nat × RT7 × qA × qA × Nat × Nat)
 p := fun s => rdF 166 0 36 [(11, .tok 1 1280000704), (1, .lst 25), (42, .lst 1), (2, .int .i64), (6, .ptr 6 0), (10, .ptr 10 0), (12, .vs0 39 1), (13, .int .i64), (14, .int .i64), (15, .ptrV 36), (16, .ptr 16 0), (43, .int .i64), (44, .int .i64), (58, .bool)] [(6, .cells [.tok 1 6401572864]), (10, .cells [.vs0 36 1]), (16, .row RK7), (36, .tt), (39, .tt)] s fun ⟨a0, a1, a2, a3, _, _, a4, a5, a6, a7, _, a8, a9, a10, _⟩ ⟨⟨a11, _⟩, ⟨a12, _⟩, a13, a14, a15, _⟩ a16 a17 => (a0, a1, a2, a3, a4, a5, a6, a7, a8, a9, a10, a11, a12, a13, a14, a15, a16, a17)
 st := fun u27 => mkF 166 [(11, (AV.list 1 u27.1 (some 1280000704))), (1, (AV.list 25 u27.2.1 none)), (42, (AV.list 1 u27.2.2.1 none)), (2, (qI u27.2.2.2.1)), (6, (AV.ptr 6 0)), (10, (AV.ptr 10 0)), (12, (AV.vs 39 0 u27.2.2.2.2.1 1)), (13, (qI u27.2.2.2.2.2.1)), (14, (qI u27.2.2.2.2.2.2.1)), (15, (AV.ptr 36 u27.2.2.2.2.2.2.2.1)), (16, (AV.ptr 16 0)), (43, (qI u27.2.2.2.2.2.2.2.2.1)), (44, (qI u27.2.2.2.2.2.2.2.2.2.1)), (58, (AV.v (.bool u27.2.2.2.2.2.2.2.2.2.2.1)))] [(6, [(AV.list 1 u27.2.2.2.2.2.2.2.2.2.2.2.1 (some 6401572864))]), (10, [(AV.vs 36 0 u27.2.2.2.2.2.2.2.2.2.2.2.2.1 1)]), (16, (zM u27.2.2.2.2.2.2.2.2.2.2.2.2.2.1)), (36, u27.2.2.2.2.2.2.2.2.2.2.2.2.2.2.1), (39, u27.2.2.2.2.2.2.2.2.2.2.2.2.2.2.2.1)] (Zi 27).1.toks 0 (some (36, u27.2.2.2.2.2.2.2.2.2.2.2.2.2.2.2.2.1, u27.2.2.2.2.2.2.2.2.2.2.2.2.2.2.2.2.2))
 out := fun y => (.normal, mkF 166 [(11, (AV.list 1 y.1 (some 1280000704))), (1, (AV.list 25 y.2.1 none)), (42, (AV.list 1 y.2.2.1 none)), (2, (qI y.2.2.2.1)), (6, (AV.ptr 6 0)), (10, (AV.ptr 10 0)), (12, (AV.vs 39 0 y.2.2.2.2.1 1)), (13, (qI y.2.2.2.2.2.1)), (14, (qI y.2.2.2.2.2.2.1)), (15, (AV.ptr 36 y.2.2.2.2.2.2.2.1)), (16, (AV.ptr 16 0)), (43, (qI y.2.2.2.2.2.2.2.2.1)), (44, (qI y.2.2.2.2.2.2.2.2.2.1))] [(6, [(AV.list 1 y.2.2.2.2.2.2.2.2.2.2.1 (some 6401572864))]), (10, [(AV.vs 36 0 y.2.2.2.2.2.2.2.2.2.2.2.1 1)]), (16, (zM y.2.2.2.2.2.2.2.2.2.2.2.2.1)), (36, y.2.2.2.2.2.2.2.2.2.2.2.2.2.1), (39, y.2.2.2.2.2.2.2.2.2.2.2.2.2.2.1)] (Zi 27).2.toks 0 (some (36, y.2.2.2.2.2.2.2.2.2.2.2.2.2.2.2.1, y.2.2.2.2.2.2.2.2.2.2.2.2.2.2.2.2)))
 b := fun u27 α kn ke => (match u27.2.2.2.2.2.2.2.2.2.2.1 with | true => (if 0 <= u27.2.2.2.2.2.2.1 /\ u27.2.2.2.2.2.2.1 < (u27.2.2.2.2.1 : Int) then (if ((0 + u27.2.2.2.2.2.2.1.toNat) * 1) + 1 <= u27.2.2.2.2.2.2.2.2.2.2.2.2.2.2.2.1.length then (ke (u27.1, u27.2.1, u27.2.2.1, u27.2.2.2.1, u27.2.2.2.2.1, u27.2.2.2.2.2.1, u27.2.2.2.2.2.2.1, u27.2.2.2.2.2.2.2.1, u27.2.2.2.2.2.2.2.2.1, u27.2.2.2.2.2.2.2.2.2.1, u27.2.2.2.2.2.2.2.2.2.2.2.1, u27.2.2.2.2.2.2.2.2.2.2.2.2.1, u27.2.2.2.2.2.2.2.2.2.2.2.2.2.1, (u27.2.2.2.2.2.2.2.2.2.2.2.2.2.2.1.map datF), ((splice u27.2.2.2.2.2.2.2.2.2.2.2.2.2.2.2.1 ((0 + u27.2.2.2.2.2.2.1.toNat) * 1) [(AV.v (.bool true))]).map dat0), u27.2.2.2.2.2.2.2.2.2.2.2.2.2.2.2.2)) else none) else none) | false => (ke (u27.1, u27.2.1, u27.2.2.1, u27.2.2.2.1, u27.2.2.2.2.1, u27.2.2.2.2.2.1, u27.2.2.2.2.2.2.1, u27.2.2.2.2.2.2.2.1, u27.2.2.2.2.2.2.2.2.1, u27.2.2.2.2.2.2.2.2.2.1, u27.2.2.2.2.2.2.2.2.2.2.2.1, u27.2.2.2.2.2.2.2.2.2.2.2.2.1, u27.2.2.2.2.2.2.2.2.2.2.2.2.2.1, (u27.2.2.2.2.2.2.2.2.2.2.2.2.2.2.1.map datF), (u27.2.2.2.2.2.2.2.2.2.2.2.2.2.2.2.1.map dat0), u27.2.2.2.2.2.2.2.2.2.2.2.2.2.2.2.2)))
abbrev zme (N : Nat) (x : qL × qL × qL × Int × Nat × Int × Int × Nat × Int × Int × Bool × qL × Nat × RT7 × qA × qA × Nat × Nat) : Option ((qL × qL × qL × Int × Nat × Int × Int × Nat × Int × Int × qL × Nat × RT7 × qA × qA × Nat × Nat)) := (Jh N).L N x
def zY (N : Nat) : LSpec where
 X := qL × qL × qL × Int × Nat × Int × Int × qL × Nat × qA × qA × Nat × Nat
 Y := (qL × qL × qL × Int × Int × Nat × qL × Nat × qA × qA × Nat × Nat) ⊕ (qL × qL × Int × Nat × qL × Nat × qA × qA × Nat × Nat)
 p := fun s => rdF 166 0 36 [(11, .tok 1 1280000704), (1, .lst 25), (42, .lst 1), (2, .int .i64), (6, .ptr 6 0), (10, .ptr 10 0), (12, .vs0 39 1), (43, .int .i64), (44, .int .i64)] [(6, .cells [.tok 1 6401572864]), (10, .cells [.vs0 36 1]), (36, .tt), (39, .tt)] s fun ⟨a0, a1, a2, a3, _, _, a4, a5, a6, _⟩ ⟨⟨a7, _⟩, ⟨a8, _⟩, a9, a10, _⟩ a11 a12 => (a0, a1, a2, a3, a4, a5, a6, a7, a8, a9, a10, a11, a12)
 st := fun u16 => mkF 166 [(11, (AV.list 1 u16.1 (some 1280000704))), (1, (AV.list 25 u16.2.1 none)), (42, (AV.list 1 u16.2.2.1 none)), (2, (qI u16.2.2.2.1)), (6, (AV.ptr 6 0)), (10, (AV.ptr 10 0)), (12, (AV.vs 39 0 u16.2.2.2.2.1 1)), (43, (qI u16.2.2.2.2.2.1)), (44, (qI u16.2.2.2.2.2.2.1))] [(6, [(AV.list 1 u16.2.2.2.2.2.2.2.1 (some 6401572864))]), (10, [(AV.vs 36 0 u16.2.2.2.2.2.2.2.2.1 1)]), (36, u16.2.2.2.2.2.2.2.2.2.1), (39, u16.2.2.2.2.2.2.2.2.2.2.1)] (Zi 16).1.toks 0 (some (36, u16.2.2.2.2.2.2.2.2.2.2.2.1, u16.2.2.2.2.2.2.2.2.2.2.2.2))
 out := fun y => match y with
  | .inl y => (.ret, mkF 166 [(11, (AV.list 1 y.1 (some 1280000704))), (1, (AV.list 25 y.2.1 none)), (7, (AV.list 1 y.2.2.1 none)), (2, (qI y.2.2.2.1)), (6, (AV.ptr 6 0)), (8, (qI y.2.2.2.2.1)), (10, (AV.ptr 10 0)), (12, (AV.vs 39 0 y.2.2.2.2.2.1 1))] [(6, [(AV.list 1 y.2.2.2.2.2.2.1 (some 6401572864))]), (10, [(AV.vs 36 0 y.2.2.2.2.2.2.2.1 1)]), (36, y.2.2.2.2.2.2.2.2.1), (39, y.2.2.2.2.2.2.2.2.2.1)] (Zi 16).2.toks 0 (some (36, y.2.2.2.2.2.2.2.2.2.2.1, y.2.2.2.2.2.2.2.2.2.2.2)))
  | .inr y => (.exit 0, mkF 166 [(11, (AV.list 1 y.1 (some 1280000704))), (1, (AV.list 25 y.2.1 none)), (2, (qI y.2.2.1)), (6, (AV.ptr 6 0)), (10, (AV.ptr 10 0)), (12, (AV.vs 39 0 y.2.2.2.1 1))] [(6, [(AV.list 1 y.2.2.2.2.1 (some 6401572864))]), (10, [(AV.vs 36 0 y.2.2.2.2.2.1 1)]), (36, y.2.2.2.2.2.2.1), (39, y.2.2.2.2.2.2.2.1)] (Zi 16).2.toks 0 (some (36, y.2.2.2.2.2.2.2.2.1, y.2.2.2.2.2.2.2.2.2)))
 b := fun u16 α kn ke => (match (decide (u16.2.2.2.2.2.2.1 < u16.2.2.2.2.2.1)) with | true => (if 0 <= u16.2.2.2.2.2.2.1 then (match u16.2.2.1[u16.2.2.2.2.2.2.1.toNat]? with | some c79 => (match c79[0]? with | some x80 => (match x80 with | .v (.int q82 n81) => (if q82 = .i64 then (if 0 <= u16.2.2.2.2.2.2.1 /\ u16.2.2.2.2.2.2.1 < (u16.2.2.2.2.2.2.2.2.1 : Int) then (match zf1 (u16.2.2.2.2.2.2.2.2.2.1.drop ((0 + u16.2.2.2.2.2.2.1.toNat) * 1)) with | some e83 => (match zml N e83.1 with | some y84 => (match zme N (u16.1, u16.2.1, u16.2.2.1, u16.2.2.2.1, u16.2.2.2.2.1, u16.2.2.2.2.2.2.1, n81, ((0 + u16.2.2.2.2.2.2.1.toNat) * 1), u16.2.2.2.2.2.1, u16.2.2.2.2.2.2.1, (decide (n81 >= 0)), u16.2.2.2.2.2.2.2.1, u16.2.2.2.2.2.2.2.2.1, y84, (u16.2.2.2.2.2.2.2.2.2.1.map datF), (u16.2.2.2.2.2.2.2.2.2.2.1.map dat0), u16.2.2.2.2.2.2.2.2.2.2.2) with | some y85 => (match zqU N y85.2.2.2.2.2.2.2.2.2.2.2.2.1.1 with | some y86 => (match (!y86) with | true => (kn (y85.1, y85.2.1, y85.2.2.1, y85.2.2.2.1, y85.2.2.2.2.1, y85.2.2.2.2.2.2.2.2.1, (i64 (y85.2.2.2.2.2.2.2.2.2.1 + 1)), y85.2.2.2.2.2.2.2.2.2.2.1, y85.2.2.2.2.2.2.2.2.2.2.2.1, (y85.2.2.2.2.2.2.2.2.2.2.2.2.2.1.map datF), (y85.2.2.2.2.2.2.2.2.2.2.2.2.2.2.1.map dat0), y85.2.2.2.2.2.2.2.2.2.2.2.2.2.2.2)) | false => (match zfl N (y85.1, y85.2.1, y85.2.2.1, y85.2.2.2.1, y85.2.2.2.2.1, y85.2.2.2.2.2.1, y85.2.2.2.2.2.2.1, y85.2.2.2.2.2.2.2.1, y85.2.2.2.2.2.2.2.2.1, y85.2.2.2.2.2.2.2.2.2.1, (decide (y85.2.2.2.2.2.2.1 >= 0)), y85.2.2.2.2.2.2.2.2.2.2.1, y85.2.2.2.2.2.2.2.2.2.2.2.1, y85.2.2.2.2.2.2.2.2.2.2.2.2.1, (y85.2.2.2.2.2.2.2.2.2.2.2.2.2.1.map datF), (y85.2.2.2.2.2.2.2.2.2.2.2.2.2.2.1.map dat0), y85.2.2.2.2.2.2.2.2.2.2.2.2.2.2.2) with | some y87 => (match y87 with | .inl z88 => (kn (z88.1, z88.2.1, z88.2.2.1, z88.2.2.2.1, z88.2.2.2.2.1, z88.2.2.2.2.2.2.2.1, (i64 (z88.2.2.2.2.2.2.2.2.1 + 1)), z88.2.2.2.2.2.2.2.2.2.1, z88.2.2.2.2.2.2.2.2.2.2.1, (z88.2.2.2.2.2.2.2.2.2.2.2.1.map datF), (z88.2.2.2.2.2.2.2.2.2.2.2.2.1.map dat0), z88.2.2.2.2.2.2.2.2.2.2.2.2.2)) | .inr z89 => (match z89.2.2.2.2.2.2.2.2.2.2.2.1[(z89.2.2.2.2.2.2.1 + 0)]? with | some x90 => (match ju 29 x90 with | some l91 => (match (decide ((l91.length : Int) > 100)) with | true => (ke (.inl (z89.1, z89.2.1, ([] : qL), z89.2.2.2.1, 8, z89.2.2.2.2.1, ([] : qL), z89.2.2.2.2.2.2.2.2.2.2.1, (z89.2.2.2.2.2.2.2.2.2.2.2.1.map datF), (z89.2.2.2.2.2.2.2.2.2.2.2.2.1.map dat0), z89.2.2.2.2.2.2.2.2.2.2.2.2.2))) | false => (if (z89.1.length + [[(AV.v (.int .i64 z89.2.2.2.2.2.1))]].length) * 8 <= zh then (kn ((z89.1 ++ [[(AV.v (.int .i64 z89.2.2.2.2.2.1))]]), z89.2.1, z89.2.2.1, z89.2.2.2.1, z89.2.2.2.2.1, z89.2.2.2.2.2.2.2.1, (i64 (z89.2.2.2.2.2.2.2.2.1 + 1)), z89.2.2.2.2.2.2.2.2.2.1, z89.2.2.2.2.2.2.2.2.2.2.1, (z89.2.2.2.2.2.2.2.2.2.2.2.1.map datF), (z89.2.2.2.2.2.2.2.2.2.2.2.2.1.map dat0), z89.2.2.2.2.2.2.2.2.2.2.2.2.2)) else none)) | none => none) | none => none)) | none => none)) | none => none) | none => none) | none => none) | none => none) else none) else none) | _ => none) | none => none) | none => none) else none) | false => (ke (.inr (u16.1, u16.2.1, u16.2.2.2.1, u16.2.2.2.2.1, u16.2.2.2.2.2.2.2.1, u16.2.2.2.2.2.2.2.2.1, (u16.2.2.2.2.2.2.2.2.2.1.map datF), (u16.2.2.2.2.2.2.2.2.2.2.1.map dat0), u16.2.2.2.2.2.2.2.2.2.2.2))))
abbrev zol (N : Nat) (x : qL × qL × qL × Int × Nat × Int × Int × qL × Nat × qA × qA × Nat × Nat) : Option ((qL × qL × qL × Int × Int × Nat × qL × Nat × qA × qA × Nat × Nat) ⊕ (qL × qL × Int × Nat × qL × Nat × qA × qA × Nat × Nat)) := (zY N).L N x
def zd8 (N : Nat) : FSpec where
 X := qL × qL × Int
 Y := qL × qL × Int
 ash := [[some 1], [some 25], [none]]
 S := ⟨[[some 1], [some 1], [none]], [], [], [], []⟩
 pat := fun a b => zk a fun v1 c2 => ji v1 fun c3 => zk c3 fun c4 c5 => jb 1 c4 fun a0 => zQ c5 <| zk c2 fun v6 c7 => jb 25 v6 fun a1 => zk c7 fun v8 c9 => Jk .i64 v8 fun a2 => zQ c9 <| zQ b <| some (a0, a1, a2)
 args := fun x => [(AV.agg [(AV.list 1 x.1 none)]), (AV.list 25 x.2.1 none), (AV.v (.int .i64 x.2.2))]
 ret := fun y => ⟨(AV.tup [(AV.agg [(AV.list 1 y.1 none)]), (AV.list 1 y.2.1 none), (AV.v (.int .i64 y.2.2))]), [], none, [], [], [], none⟩
 t := fun x α k => (match zmE N x.1 with | some y1 => (match (!y1) with | true => (k (([] : qL), ([] : qL), 1)) | false => (match zib N x.2.1 with | some y2 => (match (!y2) with | true => (k (([] : qL), ([] : qL), 1)) | false => (match zuY N (x.1, x.2.2) with | some y3 => (match (y3 != 0) with | true => (k (([] : qL), ([] : qL), y3)) | false => (match ziC N x.1 with | some y4 => (if 0 <= (x.2.1.length : Int) /\ (x.2.1.length : Int) <= (x.2.1.length : Int) /\ (x.2.1.length : Int).toNat * 1 <= zh then (match zst N (x.1, x.2.1) with | some y5 => (match zol N (([] : qL), x.2.1, y5, x.2.2, ((x.2.1.length : Int).toNat), (y5.length : Int), 0, ([] : qL), y4.1, ((y4.2.1.map (datJ y4.2.2.1 y4.2.2.2)).map datF), ((List.replicate (x.2.1.length : Int).toNat (AV.v (.bool false))).map dat0), y4.2.2) with | some y92 => (match y92 with | .inl z93 => (k (z93.2.2.2.2.2.2.1, z93.2.2.1, z93.2.2.2.2.1)) | .inr z94 => (match zpJ N (z94.1, z94.2.1, z94.2.2.1, z94.2.2.2.1, (z94.2.1.length : Int), 0, z94.2.2.2.2.1, z94.2.2.2.2.2.1, (z94.2.2.2.2.2.2.2.1.map dat0), (z94.2.2.2.2.2.2.1.map dat0)) with | some y105 => (match (decide (((y105.2.2.1 : Nat) : Int) > 500)) with | true => (k (([] : qL), ([] : qL), 8)) | false => (if y105.2.2.1 * 1 <= y105.2.2.2.length then (k ((zJ (y105.2.2.2.take (y105.2.2.1 * 1)) 1 y105.2.2.1), y105.1, 0)) else none)) | none => none)) | none => none) | none => none) else none) | none => none)) | none => none)) | none => none)) | none => none)
abbrev zh8 (N : Nat) (x : qL × qL × Int) : Option (qL × qL × Int) := (zd8 N).d x
def jq (N : Nat) : List (Nat × LSpec) := [(16, zY N), (27, Jh N), (33, jg N), (35, jy N), (46, ZA N)]
def jI : Code := Tryd.f10.body.getD .skip
theorem znm (N : Nat) : Par (ZA N).b := by
 intro x α β kn ke kn' ke' r r' h h1 h2
 revert h
 dsimp only [ZA]
 (repeat' (first | (with_reducible refine ze ?_ ?_) | split)) <;> intro h <;> first | exact h1 _ h | exact h2 _ h | cases h
theorem zj8 (N : Nat) : jc (JL qP [36, 66, 101, 156]) (zkV N) Zi N (jq N) 46 jI (ZA N) := fun x α kn ke => by kernel_rfl
theorem zlp (N : Nat) : ZE qP Zi N (jq N) 46 (zc 46 jI) :=
 zD (zK qP [36, 66, 101, 156]) (zi _) zl Zi N (jq N) 46 jI (l := []) (by kernel_rfl) (by kernel_rfl) an (ZA N) rfl (fun s x hc h => by dsimp only [ZA] at h; exact zI hc h (fun _ _ => rfl) rfl rfl rfl) (fun _ => rfl) (zj8 N) (znm N)
theorem zpC (N : Nat) : Par (jy N).b := by
 intro x α β kn ke kn' ke' r r' h h1 h2
 revert h
 dsimp only [jy]
 (repeat' (first | (with_reducible refine ze ?_ ?_) | split)) <;> intro h <;> first | exact h1 _ h | exact h2 _ h | cases h
theorem zkB (N : Nat) : zlv (JL qP [36, 66, 101, 156]) (zkV N) Zi N (jq N) 35 jI (jy N) := fun x α kn ke => by kernel_rfl
theorem zbj (N : Nat) : ZE qP Zi N (jq N) 35 (zc 35 jI) :=
 jU (zK qP [36, 66, 101, 156]) (zi _) zl Zi N (jq N) 35 jI (l := []) (by kernel_rfl) an (jy N) rfl (fun s x hc h => by dsimp only [jy] at h; exact za0 hc h (fun _ _ _ _ => rfl) rfl rfl) (zkB N) (zpC N)
theorem zn5 (N : Nat) : Par (jg N).b := by
 intro x α β kn ke kn' ke' r r' h h1 h2
 revert h
 dsimp only [jg]
 (repeat' (first | (with_reducible refine ze ?_ ?_) | split)) <;> intro h <;> first | exact h1 _ h | exact h2 _ h | cases h
theorem zkD (N : Nat) : zlv (JL qP [36, 66, 101, 156]) (zkV N) Zi N (jq N) 33 jI (jg N) := fun x α kn ke => by kernel_rfl
theorem zem (N : Nat) : ZE qP Zi N (jq N) 33 (zc 33 jI) :=
 jU (zK qP [36, 66, 101, 156]) (zi _) zl Zi N (jq N) 33 jI (l := [(35, zc 35 jI)]) (by kernel_rfl) (al (zbj N) an) (jg N) rfl (fun s x hc h => by dsimp only [jg] at h; exact za0 hc h (fun _ _ _ _ => rfl) rfl rfl) (zkD N) (zn5 N)
theorem zpc (N : Nat) : Par (Jh N).b := by
 intro x α β kn ke kn' ke' r r' h h1 h2
 revert h
 dsimp only [Jh]
 (repeat' (first | (with_reducible refine ze ?_ ?_) | split)) <;> intro h <;> first | exact h1 _ h | exact h2 _ h | cases h
theorem zke (N : Nat) : zlv (JL qP [36, 66, 101, 156]) (zkV N) Zi N (jq N) 27 jI (Jh N) := fun x α kn ke => by kernel_rfl
theorem zef (N : Nat) : ZE qP Zi N (jq N) 27 (zc 27 jI) :=
 jU (zK qP [36, 66, 101, 156]) (zi _) zl Zi N (jq N) 27 jI (l := []) (by kernel_rfl) an (Jh N) rfl (fun s x hc h => by dsimp only [Jh] at h; exact za0 hc h (fun _ _ _ _ => rfl) rfl rfl) (zke N) (zpc N)
theorem zon (N : Nat) : Par (zY N).b := by
 intro x α β kn ke kn' ke' r r' h h1 h2
 revert h
 dsimp only [zY]
 (repeat' (first | (with_reducible refine ze ?_ ?_) | split)) <;> intro h <;> first | exact h1 _ h | exact h2 _ h | cases h
theorem zkY (N : Nat) : jc (JL qP [36, 66, 101, 156]) (zkV N) Zi N (jq N) 16 jI (zY N) := fun x α kn ke => by kernel_rfl
theorem zjB (N : Nat) : ZE qP Zi N (jq N) 16 (zc 16 jI) :=
 zD (zK qP [36, 66, 101, 156]) (zi _) zl Zi N (jq N) 16 jI (l := [(27, zc 27 jI), (33, zc 33 jI), (35, zc 35 jI)]) (by kernel_rfl) (by kernel_rfl) (al (zef N) (al (zem N) (al (zbj N) an))) (zY N) rfl (fun s x hc h => by dsimp only [zY] at h; exact za0 hc h (fun _ _ _ _ => rfl) rfl rfl) (fun _ => rfl) (zkY N) (zon N)
theorem zqf (N : Nat) : Zd (zd8 N).t := by
 intro x α β k k' r r' h h1
 revert h
 dsimp only [zd8]
 (repeat' (first | (with_reducible refine ze ?_ ?_) | split)) <;> intro h <;> first | exact h1 _ h | cases h
theorem zqT (N : Nat) : Zf (JL qP [36, 66, 101, 156]) (zkV N) Zi (lam N (jq N)) Tryd.f10 (zd8 N) := fun x => by kernel_rfl
theorem zxA (N : Nat) (a : List AV) (b : qL) (x : (zd8 N).X) (h : (zd8 N).pat a b = some x) : a = (zd8 N).args x /\ b = (zd8 N).bs x := by
 obtain ⟨v1, c2, rfl, g0⟩ := zb (show zk _ _ = some x from h)
 obtain ⟨c3, rfl, g1⟩ := zS g0; clear g0
 obtain ⟨c4, c5, rfl, g2⟩ := zb g1; clear g1
 obtain ⟨a0, rfl, g3⟩ := zq g2; clear g2
 obtain ⟨rfl, g4⟩ := zg g3; clear g3
 obtain ⟨v6, c7, rfl, g5⟩ := zb g4; clear g4
 obtain ⟨a1, rfl, g6⟩ := zq g5; clear g5
 obtain ⟨v8, c9, rfl, g7⟩ := zb g6; clear g6
 obtain ⟨a2, rfl, g8⟩ := zG g7; clear g7
 obtain ⟨rfl, g9⟩ := zg g8; clear g8
 obtain ⟨rfl, g10⟩ := zg g9; clear g9
 clear h
 cases g10
 exact ⟨rfl, rfl⟩
def zAa (N : Nat) : Ent qP := zx (zK qP [36, 66, 101, 156]) (zi _) zl 10 Tryd.f10 Tryd.func10 rfl Zi (lam N (jq N)) (zm (l := [(16, zc 16 jI), (27, zc 27 jI), (33, zc 33 jI), (35, zc 35 jI), (46, zc 46 jI)]) (al (zjB N) (al (zef N) (al (zem N) (al (zbj N) (al (zlp N) an))))) (by kernel_rfl)) (zd8 N) (fun _ => ⟨rfl, rfl⟩) (zqT N) (zxA N) (zqf N)
end
end Go.Proofs.YthdgnfcbehcplaaDoor
end
