/- Several texts as one (written by pack.py). -/
import Derived.Test.YthdgnfcbehcplaaDoorCsC
set_option linter.unusedVariables false
set_option linter.unusedSimpArgs false
set_option linter.unnecessarySimpa false
section
namespace Go.Proofs.YthdgnfcbehcplaaDoor
noncomputable section
open Go.RowKit
set_option maxRecDepth 4000
set_option maxHeartbeats 4000000
def zlO : Nat -> Keep × Keep := anL []
def zzB (N : Nat) : GamK := gam (P := qP) []
def zf5 (N : Nat) : FSpec where
 X := ByteArray × ByteArray
 Y := Int
 ash := [[none], [none]]
 S := ⟨[[none]], [], [], [], []⟩
 pat := λ a b => rdA [.str, .str] [] a b λ ⟨a0, a1, _⟩ _ => (a0, a1)
 args := λ x => [(AV.v (.string x.1)), (AV.v (.string x.2))]
 ret := λ y => ⟨(AV.v (.int .i64 y)), [], none, [], [], [], none⟩
 t := λ x α k => (match (Go.Op.bytesLess x.1.toList x.2.toList) with | true => (k (-1)) | false => (match (!((Go.Op.bytesLess x.1.toList x.2.toList) || (x.1.toList == x.2.toList))) with | true => (k 1) | false => (k 0)))
abbrev zix (N : Nat) (x : ByteArray × ByteArray) : Option (Int) := (zf5 N).d x
theorem zlP (N : Nat) : Zd (zf5 N).t := by
 intro x α β k k' r r' h h1
 revert h
 dsimp only [zf5]
 (repeat' (first | (with_reducible refine ze ?_ ?_) | split)) <;> intro h <;> first | exact h1 _ h | cases h
theorem zlQ (N : Nat) : Zg (zn qP) (zzB N) zlO (lam N []) Tryd.f103 (zf5 N) := λ x => by kernel_rfl
def zzA (N : Nat) : Ent qP := zA (zc qP) (zh _) zk 103 Tryd.f103 Tryd.func103 rfl zlO (lam N []) (zm (l := []) an (by kernel_rfl)) (zf5 N) (λ _ => ⟨rfl, rfl⟩) (zlQ N) (λ _ _ _ h => zw h (λ _ _ => rfl) (λ _ _ => rfl)) (zlP N)
abbrev RK4 : List Ck := [.int .i64, .int .i64, .int .i64, .int .i64]
abbrev RT4 : Type := Int × Int × Int × Int × Unit
def Ren4 (e : RT4) : List AV := enc RK4 e
def JS : Nat -> Keep × Keep := anL [(4, qK [27, 28] [] [], qK [4] [] [])]
def zvv (N : Nat) : GamK := gam (P := qP) [zzA N]
def zaw (N : Nat) : LSpec where
 X := RT4 × Int
 Y := (Int) ⊕ (Unit)
 p := λ s => rdS 35 0 [(27, .agg RK4), (28, .int .i64)] [] s λ ⟨a0, a1, _⟩ _ => (a0, a1)
 st := λ u4 => mkS 35 [(27, (AV.agg (Ren4 u4.1))), (28, (qI u4.2))] [] (JS 4).1.toks 0
 out := λ y => match y with
  | .inl y => (.ret, mkS 35 [(4, (qI y))] [] (JS 4).2.toks 0)
  | .inr y => (.exit 0, mkS 35 [] [] (JS 4).2.toks 0)
 b := λ u4 α kn ke => (match (decide (u4.2 < 4)) with | true => (if 0 <= u4.2 /\ u4.2 < 4 then (match [(AV.v (.int .i64 u4.1.1)), (AV.v (.int .i64 u4.1.2.1)), (AV.v (.int .i64 u4.1.2.2.1)), (AV.v (.int .i64 u4.1.2.2.2.1))][(u4.2.toNat * 1)]? with | some x5 => (match x5 with | .v (.int q7 n6) => (if q7 = .i64 then (match (n6 != 0) with | true => (ke (.inl n6)) | false => (kn (u4.1, (i64 (u4.2 + 1))))) else none) | _ => none) | none => none) else none) | false => (ke (.inr ())))
abbrev zxa (N : Nat) (x : RT4 × Int) : Option ((Int) ⊕ (Unit)) := (zaw N).L N x
def zf3 (N : Nat) : FSpec where
 X := RT2 × RT2
 Y := Int
 ash := [[none, none, none, none], [none, none, none, none]]
 S := ⟨[[none]], [], [], [], []⟩
 pat := λ a b => rdA [.agg RK2, .agg RK2] [] a b λ ⟨a0, a1, _⟩ _ => (a0, a1)
 args := λ x => [(AV.agg (zBh x.1)), (AV.agg (zBh x.2))]
 ret := λ y => ⟨(AV.v (.int .i64 y)), [], none, [], [], [], none⟩
 t := λ x α k => (match zix N (x.1.1, x.2.1) with | some y1 => (match zix N (x.1.2.1, x.2.2.1) with | some y2 => (match zix N (x.1.2.2.1, x.2.2.2.1) with | some y3 => (match zix N (x.1.2.2.2.1, x.2.2.2.2.1) with | some y4 => (match zxa N ((y1, y2, y3, y4, ()), 0) with | some y8 => (match y8 with | .inl z9 => (k z9) | .inr z10 => (k 0)) | none => none) | none => none) | none => none) | none => none) | none => none)
abbrev zzw (N : Nat) (x : RT2 × RT2) : Option (Int) := (zf3 N).d x
def zcG (N : Nat) : List (Nat × LSpec) := [(4, zaw N)]
def ziv : Code := Tryd.f101.body.getD .skip
theorem zlI (N : Nat) : Par (zaw N).b := by
 intro x α β kn ke kn' ke' r r' h h1 h2
 revert h
 dsimp only [zaw]
 (repeat' (first | (with_reducible refine ze ?_ ?_) | split)) <;> intro h <;> first | exact h1 _ h | exact h2 _ h | cases h
theorem zjC (N : Nat) : Z3 (zn qP) (zvv N) JS N (zcG N) 4 ziv (zaw N) := λ x α kn ke => by kernel_rfl
theorem zjD (N : Nat) : ZB qP JS N (zcG N) 4 (zb 4 ziv) :=
 zD (zc qP) (zh _) zk JS N (zcG N) 4 ziv (l := []) (by kernel_rfl) (by kernel_rfl) an (zaw N) rfl (λ s x hc h => by dsimp only [zaw] at h; exact zG hc h (λ _ _ => rfl) rfl rfl rfl) (λ _ => rfl) (zjC N) (zlI N)
theorem zlJ (N : Nat) : Zd (zf3 N).t := by
 intro x α β k k' r r' h h1
 revert h
 dsimp only [zf3]
 (repeat' (first | (with_reducible refine ze ?_ ?_) | split)) <;> intro h <;> first | exact h1 _ h | cases h
theorem zlK (N : Nat) : Zg (zn qP) (zvv N) JS (lam N (zcG N)) Tryd.f101 (zf3 N) := λ x => by kernel_rfl
def zzx (N : Nat) : Ent qP := zA (zc qP) (zh _) zk 101 Tryd.f101 Tryd.func101 rfl JS (lam N (zcG N)) (zm (l := [(4, zb 4 ziv)]) (al (zjD N) an) (by kernel_rfl)) (zf3 N) (λ _ => ⟨rfl, rfl⟩) (zlK N) (λ _ _ _ h => zw h (λ _ _ => rfl) (λ _ _ => rfl)) (zlJ N)
abbrev RK5 : List Ck := [.int .i64, .int .i64, .int .i64, .int .i64, .int .i64, .int .i64, .int .i64, .int .i64, .int .i64, .int .i64]
abbrev RT5 : Type := Int × Int × Int × Int × Int × Int × Int × Int × Int × Int × Unit
def Ren5 (e : RT5) : List AV := enc RK5 e
def zbV : Nat -> Keep × Keep := anL [(9, qK [41, 42] [] [], qK [4] [] [])]
def zA9 (N : Nat) : GamK := gam (P := qP) [zzx N]
def zc5 (N : Nat) : LSpec where
 X := RT5 × Int
 Y := (Int) ⊕ (Unit)
 p := λ s => rdS 56 0 [(41, .agg RK5), (42, .int .i64)] [] s λ ⟨a0, a1, _⟩ _ => (a0, a1)
 st := λ u9 => mkS 56 [(41, (AV.agg (Ren5 u9.1))), (42, (qI u9.2))] [] (zbV 9).1.toks 0
 out := λ y => match y with
  | .inl y => (.ret, mkS 56 [(4, (qI y))] [] (zbV 9).2.toks 0)
  | .inr y => (.exit 0, mkS 56 [] [] (zbV 9).2.toks 0)
 b := λ u9 α kn ke => (match (decide (u9.2 < 5)) with | true => (if 0 <= u9.2 /\ u9.2 < 5 then (match ([(AV.v (.int .i64 u9.1.1)), (AV.v (.int .i64 u9.1.2.1)), (AV.v (.int .i64 u9.1.2.2.1)), (AV.v (.int .i64 u9.1.2.2.2.1)), (AV.v (.int .i64 u9.1.2.2.2.2.1)), (AV.v (.int .i64 u9.1.2.2.2.2.2.1)), (AV.v (.int .i64 u9.1.2.2.2.2.2.2.1)), (AV.v (.int .i64 u9.1.2.2.2.2.2.2.2.1)), (AV.v (.int .i64 u9.1.2.2.2.2.2.2.2.2.1)), (AV.v (.int .i64 u9.1.2.2.2.2.2.2.2.2.2.1))].drop (u9.2.toNat * 2)) with | x2 :: r3 => (match x2 with | .v (.int q5 n4) => (if q5 = .i64 then (match r3 with | x6 :: r7 => (match x6 with | .v (.int q9 n8) => (if q9 = .i64 then (match (decide (n4 < n8)) with | true => (ke (.inl (-1))) | false => (match (decide (n4 > n8)) with | true => (ke (.inl 1)) | false => (kn (u9.1, (i64 (u9.2 + 1)))))) else none) | _ => none) | [] => none) else none) | _ => none) | [] => none) else none) | false => (ke (.inr ())))
abbrev zA7 (N : Nat) (x : RT5 × Int) : Option ((Int) ⊕ (Unit)) := (zc5 N).L N x
def zoM (N : Nat) : FSpec where
 X := RT1 × RT1
 Y := Int
 ash := [[none, none, none, none, none, none, none, none, none], [none, none, none, none, none, none, none, none, none]]
 S := ⟨[[none]], [], [], [], []⟩
 pat := λ a b => rdA [.agg RK1, .agg RK1] [] a b λ ⟨a0, a1, _⟩ _ => (a0, a1)
 args := λ x => [(AV.agg (zy x.1)), (AV.agg (zy x.2))]
 ret := λ y => ⟨(AV.v (.int .i64 y)), [], none, [], [], [], none⟩
 t := λ x α k => (match zzw N ((zfo x.1), (zfo x.2)) with | some y1 => (match (y1 != 0) with | true => (k y1) | false => (match zA7 N ((x.1.2.2.2.2.1, x.2.2.2.2.2.1, x.1.2.2.2.2.2.1, x.2.2.2.2.2.2.1, x.1.2.2.2.2.2.2.1, x.2.2.2.2.2.2.2.1, x.1.2.2.2.2.2.2.2.1, x.2.2.2.2.2.2.2.2.1, x.1.2.2.2.2.2.2.2.2.1, x.2.2.2.2.2.2.2.2.2.1, ()), 0) with | some y10 => (match y10 with | .inl z11 => (k z11) | .inr z12 => (k 0)) | none => none)) | none => none)
abbrev zA6 (N : Nat) (x : RT1 × RT1) : Option (Int) := (zoM N).d x
def zgz (N : Nat) : List (Nat × LSpec) := [(9, zc5 N)]
def ztX : Code := Tryd.f97.body.getD .skip
theorem ztY (N : Nat) : Par (zc5 N).b := by
 intro x α β kn ke kn' ke' r r' h h1 h2
 revert h
 dsimp only [zc5]
 (repeat' (first | (with_reducible refine ze ?_ ?_) | split)) <;> intro h <;> first | exact h1 _ h | exact h2 _ h | cases h
theorem zoK (N : Nat) : Z3 (zn qP) (zA9 N) zbV N (zgz N) 9 ztX (zc5 N) := λ x α kn ke => by kernel_rfl
theorem zoL (N : Nat) : ZB qP zbV N (zgz N) 9 (zb 9 ztX) :=
 zD (zc qP) (zh _) zk zbV N (zgz N) 9 ztX (l := []) (by kernel_rfl) (by kernel_rfl) an (zc5 N) rfl (λ s x hc h => by dsimp only [zc5] at h; exact zG hc h (λ _ _ => rfl) rfl rfl rfl) (λ _ => rfl) (zoK N) (ztY N)
theorem ztZ (N : Nat) : Zd (zoM N).t := by
 intro x α β k k' r r' h h1
 revert h
 dsimp only [zoM]
 (repeat' (first | (with_reducible refine ze ?_ ?_) | split)) <;> intro h <;> first | exact h1 _ h | cases h
theorem zt0 (N : Nat) : Zg (zn qP) (zA9 N) zbV (lam N (zgz N)) Tryd.f97 (zoM N) := λ x => by kernel_rfl
def zA8 (N : Nat) : Ent qP := zA (zc qP) (zh _) zk 97 Tryd.f97 Tryd.func97 rfl zbV (lam N (zgz N)) (zm (l := [(9, zb 9 ztX)]) (al (zoL N) an) (by kernel_rfl)) (zoM N) (λ _ => ⟨rfl, rfl⟩) (zt0 N) (λ _ _ _ h => zw h (λ _ _ => rfl) (λ _ _ => rfl)) (ztZ N)
def zww : Nat -> Keep × Keep := anL []
def zDF (N : Nat) : GamK := gam (P := qP) [zA8 N]
def zon (N : Nat) : FSpec where
 X := RT1 × RT1
 Y := Int
 ash := [[none, none, none, none, none, none, none, none, none], [none, none, none, none, none, none, none, none, none]]
 S := ⟨[[none]], [], [], [], []⟩
 pat := λ a b => rdA [.agg RK1, .agg RK1] [] a b λ ⟨a0, a1, _⟩ _ => (a0, a1)
 args := λ x => [(AV.agg (zy x.1)), (AV.agg (zy x.2))]
 ret := λ y => ⟨(AV.v (.int .i64 y)), [], none, [], [], [], none⟩
 t := λ x α k => (match (decide (x.1.2.2.2.2.1 < x.2.2.2.2.2.1)) with | true => (k (-1)) | false => (match (decide (x.1.2.2.2.2.1 > x.2.2.2.2.2.1)) with | true => (k 1) | false => (match zA6 N x with | some y1 => (k y1) | none => none)))
abbrev zx3 (N : Nat) (x : RT1 × RT1) : Option (Int) := (zon N).d x
theorem zte (N : Nat) : Zd (zon N).t := by
 intro x α β k k' r r' h h1
 revert h
 dsimp only [zon]
 (repeat' (first | (with_reducible refine ze ?_ ?_) | split)) <;> intro h <;> first | exact h1 _ h | cases h
theorem ztf (N : Nat) : Zg (zn qP) (zDF N) zww (lam N []) Tryd.f81 (zon N) := λ x => by kernel_rfl
def zAS (N : Nat) : Ent qP := zA (zc qP) (zh _) zk 81 Tryd.f81 Tryd.func81 rfl zww (lam N []) (zm (l := []) an (by kernel_rfl)) (zon N) (λ _ => ⟨rfl, rfl⟩) (ztf N) (λ _ _ _ h => zw h (λ _ _ => rfl) (λ _ _ => rfl)) (zte N)
def zcY : Nat -> Keep × Keep := anL [(5, ⟨[2, 3, 4], [], [2, 3], [(0, 9)], [], [], [], [], false, none, []⟩, qK [2, 3] [] [2, 3])]
def zAK (N : Nat) : GamK := gam (P := qP) [zAS N]
def zcZ (N : Nat) : LSpec where
 X := qL × Int × RT1 × RT1
 Y := (RT1 × RT1)
 p := λ s => rdS 26 0 [(0, .lst 9), (2, .ptr 2 0), (3, .ptr 3 0), (4, .int .i64)] [(2, .row RK1), (3, .row RK1)] s λ ⟨a0, _, _, a1, _⟩ ⟨a2, a3, _⟩ => (a0, a1, a2, a3)
 st := λ u5 => mkS 26 [(0, (AV.list 9 u5.1 none)), (2, (AV.ptr 2 0)), (3, (AV.ptr 3 0)), (4, (qI u5.2.1))] [(2, (zy u5.2.2.1)), (3, (zy u5.2.2.2))] (zcY 5).1.toks 0
 out := λ y => (.exit 0, mkS 26 [(2, (AV.ptr 2 0)), (3, (AV.ptr 3 0))] [(2, (zy y.1)), (3, (zy y.2))] (zcY 5).2.toks 0)
 b := λ u5 α kn ke => (match (decide (u5.2.1 < (u5.1.length : Int))) with | true => (if 0 <= u5.2.1 then (match u5.1[u5.2.1.toNat]? with | some c8 => (match Jy c8 with | some e9 => (match zx3 N (e9, u5.2.2.2) with | some y10 => (match (decide (y10 < 0)) with | true => (if 0 <= u5.2.1 then (match u5.1[u5.2.1.toNat]? with | some c11 => (match Jy c11 with | some e12 => (kn (u5.1, (i64 (u5.2.1 + 1)), u5.2.2.1, e12)) | none => none) | none => none) else none) | false => (kn (u5.1, (i64 (u5.2.1 + 1)), u5.2.2))) | none => none) | none => none) | none => none) else none) | false => (ke u5.2.2))
abbrev zAJ (N : Nat) (x : qL × Int × RT1 × RT1) : Option ((RT1 × RT1)) := (zcZ N).L N x
def zof (N : Nat) : FSpec where
 X := qL
 Y := RT1
 ash := [[some 9]]
 S := ⟨[[none, none, none, none, none, none, none, none, none]], [], [], [], []⟩
 pat := λ a b => rdA [.lst 9] [] a b λ ⟨a0, _⟩ _ => a0
 args := λ x => [(AV.list 9 x none)]
 ret := λ y => ⟨(AV.agg (zy y)), [], none, [], [], [], none⟩
 t := λ x α k => (if 0 <= (0 : Int) then (match x[(0 : Int).toNat]? with | some c1 => (match Jy c1 with | some e2 => (match zAJ N (x, 1, ((⟨#[]⟩ : ByteArray), (⟨#[]⟩ : ByteArray), (⟨#[]⟩ : ByteArray), (⟨#[]⟩ : ByteArray), 0, 0, 0, 0, 0, ()), e2) with | some y13 => (k y13.2) | none => none) | none => none) | none => none) else none)
abbrev zAI (N : Nat) (x : qL) : Option (RT1) := (zof N).d x
def zgs (N : Nat) : List (Nat × LSpec) := [(5, zcZ N)]
def zs3 : Code := Tryd.f79.body.getD .skip
theorem zs4 (N : Nat) : Par (zcZ N).b := by
 intro x α β kn ke kn' ke' r r' h h1 h2
 revert h
 dsimp only [zcZ]
 (repeat' (first | (with_reducible refine ze ?_ ?_) | split)) <;> intro h <;> first | exact h1 _ h | exact h2 _ h | cases h
theorem zod (N : Nat) : Z3 (zn qP) (zAK N) zcY N (zgs N) 5 zs3 (zcZ N) := λ x α kn ke => by kernel_rfl
theorem zoe (N : Nat) : ZB qP zcY N (zgs N) 5 (zb 5 zs3) :=
 zD (zc qP) (zh _) zk zcY N (zgs N) 5 zs3 (l := []) (by kernel_rfl) (by kernel_rfl) an (zcZ N) rfl (λ s x hc h => by dsimp only [zcZ] at h; exact zG hc h (λ _ _ => rfl) rfl rfl rfl) (λ _ => rfl) (zod N) (zs4 N)
theorem zs5 (N : Nat) : Zd (zof N).t := by
 intro x α β k k' r r' h h1
 revert h
 dsimp only [zof]
 (repeat' (first | (with_reducible refine ze ?_ ?_) | split)) <;> intro h <;> first | exact h1 _ h | cases h
theorem zs6 (N : Nat) : Zg (zn qP) (zAK N) zcY (lam N (zgs N)) Tryd.f79 (zof N) := λ x => by kernel_rfl
def zDB (N : Nat) : Ent qP := zA (zc qP) (zh _) zk 79 Tryd.f79 Tryd.func79 rfl zcY (lam N (zgs N)) (zm (l := [(5, zb 5 zs3)]) (al (zoe N) an) (by kernel_rfl)) (zof N) (λ _ => ⟨rfl, rfl⟩) (zs6 N) (λ _ _ _ h => zw h (λ _ _ => rfl) (λ _ _ => rfl)) (zs5 N)
def JI : Nat -> Keep × Keep := anF [(5, ⟨[4], [], [], [(0, 9)], [], [(3, 9)], [], [], false, none, []⟩, ⟨[], [], [], [], [], [(3, 9)], [], [], false, none, []⟩), (14, ⟨[3, 4, 5], [], [1000003], [(0, 9)], [], [], [], [1000003], false, none, []⟩, ⟨[3, 4, 5], [], [1000003], [(0, 9)], [], [], [], [1000003], false, none, []⟩)] [(100012, ([3], []))]
def zx2 (N : Nat) : GamK := gam (P := qP) [zA8 N]
def zaE (N : Nat) : LSpec where
 X := qL × Nat × Int × Int × qA
 Y := (qL × Nat × Int × Int × qA)
 p := λ s => rdS 68 0 [(0, .lst 9), (3, .vs0 1000003 9), (4, .int .i64), (5, .int .i64)] [(1000003, .tt)] s λ ⟨a0, a1, a2, a3, _⟩ ⟨a4, _⟩ => (a0, a1, a2, a3, a4)
 st := λ u14 => mkS 68 [(0, (AV.list 9 u14.1 none)), (3, (AV.vs 1000003 0 u14.2.1 9)), (4, (qI u14.2.2.1)), (5, (qI u14.2.2.2.1))] [(1000003, u14.2.2.2.2)] (JI 14).1.toks 0
 out := λ y => (.exit 2, mkS 68 [(0, (AV.list 9 y.1 none)), (3, (AV.vs 1000003 0 y.2.1 9)), (4, (qI y.2.2.1)), (5, (qI y.2.2.2.1))] [(1000003, y.2.2.2.2)] (JI 14).2.toks 0)
 b := λ u14 α kn ke => (match (decide (u14.2.2.2.1 > 0)) with | true => (if 0 <= (i64 (u14.2.2.2.1 - 1)) /\ (i64 (u14.2.2.2.1 - 1)) < (u14.2.1 : Int) then (match Jy (u14.2.2.2.2.drop ((0 + (i64 (u14.2.2.2.1 - 1)).toNat) * 9)) with | some e5 => (if 0 <= u14.2.2.1 then (match u14.1[u14.2.2.1.toNat]? with | some c6 => (match Jy c6 with | some e7 => (match zA6 N (e5, e7) with | some y8 => (match (decide (y8 > 0)) with | true => (kn (u14.1, u14.2.1, u14.2.2.1, (i64 (u14.2.2.2.1 - 1)), (u14.2.2.2.2.map dat0))) | false => (ke (u14.1, u14.2.1, u14.2.2.1, u14.2.2.2.1, (u14.2.2.2.2.map dat0)))) | none => none) | none => none) | none => none) else none) | none => none) else none) | false => (ke (u14.1, u14.2.1, u14.2.2.1, u14.2.2.2.1, (u14.2.2.2.2.map dat0))))
abbrev zx1 (N : Nat) (x : qL × Nat × Int × Int × qA) : Option ((qL × Nat × Int × Int × qA)) := (zaE N).L N x
def zc2 (N : Nat) : LSpec where
 X := Nat × qL × Int × qA
 Y := (Nat × qA)
 p := λ s => rdS 68 0 [(3, .vs0 1000003 9), (0, .lst 9), (4, .int .i64)] [(1000003, .tt)] s λ ⟨a0, a1, a2, _⟩ ⟨a3, _⟩ => (a0, a1, a2, a3)
 st := λ u5 => mkS 68 [(3, (AV.vs 1000003 0 u5.1 9)), (0, (AV.list 9 u5.2.1 none)), (4, (qI u5.2.2.1))] [(1000003, u5.2.2.2)] (JI 5).1.toks 0
 out := λ y => (.exit 0, mkS 68 [(3, (AV.vs 1000003 0 y.1 9))] [(1000003, y.2)] (JI 5).2.toks 0)
 b := λ u5 α kn ke => (match (decide (u5.2.2.1 < (u5.2.1.length : Int))) with | true => (match zx1 N (u5.2.1, u5.1, u5.2.2.1, ((u5.1 : Nat) : Int), (u5.2.2.2.map dat0)) with | some y9 => (match (decide (y9.2.2.2.1 > 0)) with | true => (if 0 <= (i64 (y9.2.2.2.1 - 1)) /\ (i64 (y9.2.2.2.1 - 1)) < (y9.2.1 : Int) then (match Jy (y9.2.2.2.2.drop ((0 + (i64 (y9.2.2.2.1 - 1)).toNat) * 9)) with | some e10 => (if 0 <= y9.2.2.1 then (match y9.1[y9.2.2.1.toNat]? with | some c11 => (match Jy c11 with | some e12 => (match (((e10.1 == e12.1) && ((e10.2.1 == e12.2.1) && ((e10.2.2.1 == e12.2.2.1) && ((e10.2.2.2.1 == e12.2.2.2.1) && true)))) && ((e10.2.2.2.2.1 == e12.2.2.2.2.1) && ((e10.2.2.2.2.2.1 == e12.2.2.2.2.2.1) && ((e10.2.2.2.2.2.2.1 == e12.2.2.2.2.2.2.1) && ((e10.2.2.2.2.2.2.2.1 == e12.2.2.2.2.2.2.2.1) && ((e10.2.2.2.2.2.2.2.2.1 == e12.2.2.2.2.2.2.2.2.1) && true)))))) with | true => (kn (y9.2.1, y9.1, (i64 (y9.2.2.1 + 1)), (y9.2.2.2.2.map dat0))) | false => (if 0 <= y9.2.2.1 then (match y9.1[y9.2.2.1.toNat]? with | some c13 => (match Jy c13 with | some e14 => (if y9.2.1 * 9 <= y9.2.2.2.2.length /\ (y9.2.1 + [(zy e14)].length) * 104 <= zg then (if 0 <= (i64 (y9.2.2.2.1 + 1)) /\ (i64 (y9.2.2.2.1 + 1)) <= (((y9.2.1 + [(zy e14)].length) : Nat) : Int) then (if 0 <= y9.2.2.2.1 /\ y9.2.2.2.1 <= (((y9.2.1 + [(zy e14)].length) : Nat) : Int) then (if ((0 + y9.2.2.2.1.toNat) + ((y9.2.1 + [(zy e14)].length) - y9.2.2.2.1.toNat)) * 9 <= (y9.2.2.2.2.take (y9.2.1 * 9) ++ [(zy e14)].flatten).length then (if ((0 + (i64 (y9.2.2.2.1 + 1)).toNat) + ((y9.2.1 + [(zy e14)].length) - (i64 (y9.2.2.2.1 + 1)).toNat)) * 9 <= (y9.2.2.2.2.take (y9.2.1 * 9) ++ [(zy e14)].flatten).length then (if 0 <= y9.2.2.1 then (match y9.1[y9.2.2.1.toNat]? with | some c15 => (match Jy c15 with | some e16 => (if 0 <= y9.2.2.2.1 /\ y9.2.2.2.1 < (((y9.2.1 + [(zy e14)].length) : Nat) : Int) then (if ((0 + y9.2.2.2.1.toNat) * 9) + 9 <= (splice (y9.2.2.2.2.take (y9.2.1 * 9) ++ [(zy e14)].flatten) ((0 + (i64 (y9.2.2.2.1 + 1)).toNat) * 9) (((y9.2.2.2.2.take (y9.2.1 * 9) ++ [(zy e14)].flatten).drop ((0 + y9.2.2.2.1.toNat) * 9)).take ((Nat.min ((y9.2.1 + [(zy e14)].length) - y9.2.2.2.1.toNat) ((y9.2.1 + [(zy e14)].length) - (i64 (y9.2.2.2.1 + 1)).toNat)) * 9))).length then (kn ((y9.2.1 + [(zy e14)].length), y9.1, (i64 (y9.2.2.1 + 1)), ((splice (splice (y9.2.2.2.2.take (y9.2.1 * 9) ++ [(zy e14)].flatten) ((0 + (i64 (y9.2.2.2.1 + 1)).toNat) * 9) (((y9.2.2.2.2.take (y9.2.1 * 9) ++ [(zy e14)].flatten).drop ((0 + y9.2.2.2.1.toNat) * 9)).take ((Nat.min ((y9.2.1 + [(zy e14)].length) - y9.2.2.2.1.toNat) ((y9.2.1 + [(zy e14)].length) - (i64 (y9.2.2.2.1 + 1)).toNat)) * 9))) ((0 + y9.2.2.2.1.toNat) * 9) (zy e16)).map dat0))) else none) else none) | none => none) | none => none) else none) else none) else none) else none) else none) else none) | none => none) | none => none) else none)) | none => none) | none => none) else none) | none => none) else none) | false => (if 0 <= y9.2.2.1 then (match y9.1[y9.2.2.1.toNat]? with | some c17 => (match Jy c17 with | some e18 => (if y9.2.1 * 9 <= y9.2.2.2.2.length /\ (y9.2.1 + [(zy e18)].length) * 104 <= zg then (if 0 <= (i64 (y9.2.2.2.1 + 1)) /\ (i64 (y9.2.2.2.1 + 1)) <= (((y9.2.1 + [(zy e18)].length) : Nat) : Int) then (if 0 <= y9.2.2.2.1 /\ y9.2.2.2.1 <= (((y9.2.1 + [(zy e18)].length) : Nat) : Int) then (if ((0 + y9.2.2.2.1.toNat) + ((y9.2.1 + [(zy e18)].length) - y9.2.2.2.1.toNat)) * 9 <= (y9.2.2.2.2.take (y9.2.1 * 9) ++ [(zy e18)].flatten).length then (if ((0 + (i64 (y9.2.2.2.1 + 1)).toNat) + ((y9.2.1 + [(zy e18)].length) - (i64 (y9.2.2.2.1 + 1)).toNat)) * 9 <= (y9.2.2.2.2.take (y9.2.1 * 9) ++ [(zy e18)].flatten).length then (if 0 <= y9.2.2.1 then (match y9.1[y9.2.2.1.toNat]? with | some c19 => (match Jy c19 with | some e20 => (if 0 <= y9.2.2.2.1 /\ y9.2.2.2.1 < (((y9.2.1 + [(zy e18)].length) : Nat) : Int) then (if ((0 + y9.2.2.2.1.toNat) * 9) + 9 <= (splice (y9.2.2.2.2.take (y9.2.1 * 9) ++ [(zy e18)].flatten) ((0 + (i64 (y9.2.2.2.1 + 1)).toNat) * 9) (((y9.2.2.2.2.take (y9.2.1 * 9) ++ [(zy e18)].flatten).drop ((0 + y9.2.2.2.1.toNat) * 9)).take ((Nat.min ((y9.2.1 + [(zy e18)].length) - y9.2.2.2.1.toNat) ((y9.2.1 + [(zy e18)].length) - (i64 (y9.2.2.2.1 + 1)).toNat)) * 9))).length then (kn ((y9.2.1 + [(zy e18)].length), y9.1, (i64 (y9.2.2.1 + 1)), ((splice (splice (y9.2.2.2.2.take (y9.2.1 * 9) ++ [(zy e18)].flatten) ((0 + (i64 (y9.2.2.2.1 + 1)).toNat) * 9) (((y9.2.2.2.2.take (y9.2.1 * 9) ++ [(zy e18)].flatten).drop ((0 + y9.2.2.2.1.toNat) * 9)).take ((Nat.min ((y9.2.1 + [(zy e18)].length) - y9.2.2.2.1.toNat) ((y9.2.1 + [(zy e18)].length) - (i64 (y9.2.2.2.1 + 1)).toNat)) * 9))) ((0 + y9.2.2.2.1.toNat) * 9) (zy e20)).map dat0))) else none) else none) | none => none) | none => none) else none) else none) else none) else none) else none) else none) | none => none) | none => none) else none)) | none => none) | false => (ke (u5.1, (u5.2.2.2.map dat0))))
abbrev zAR (N : Nat) (x : Nat × qL × Int × qA) : Option ((Nat × qA)) := (zc2 N).L N x
def zom (N : Nat) : FSpec where
 X := qL
 Y := qL
 ash := [[some 9]]
 S := ⟨[[some 2000009]], [], [], [], []⟩
 pat := λ a b => rdA [.lst 9] [] a b λ ⟨a0, _⟩ _ => a0
 args := λ x => [(AV.list 9 x none)]
 ret := λ y => ⟨(AV.list 9 y (some 2560000000)), [], none, [], [2560000000], [], none⟩
 t := λ x α k => (match zAR N (0, x, 0, ([] : List AV)) with | some y21 => (if y21.1 * 9 <= y21.2.length then (k (zK (y21.2.take (y21.1 * 9)) 9 y21.1)) else none) | none => none)
abbrev zAQ (N : Nat) (x : qL) : Option (qL) := (zom N).d x
def zbO (N : Nat) : List (Nat × LSpec) := [(5, zc2 N), (14, zaE N)]
def zfi : Code := Tryd.f80.body.getD .skip
theorem zol (N : Nat) : Par (zaE N).b := by
 intro x α β kn ke kn' ke' r r' h h1 h2
 revert h
 dsimp only [zaE]
 (repeat' (first | (with_reducible refine ze ?_ ?_) | split)) <;> intro h <;> first | exact h1 _ h | exact h2 _ h | cases h
theorem zkL (N : Nat) : Z3 (JQ qP [51]) (zx2 N) JI N (zbO N) 14 zfi (zaE N) := λ x α kn ke => by kernel_rfl
theorem zev (N : Nat) : ZB qP JI N (zbO N) 14 (zb 14 zfi) :=
 zD (zL qP [51]) (zh _) zk JI N (zbO N) 14 zfi (l := []) (by kernel_rfl) (by kernel_rfl) an (zaE N) rfl (λ s x hc h => by dsimp only [zaE] at h; exact zG hc h (λ _ _ => rfl) rfl rfl rfl) (λ _ => rfl) (zkL N) (zol N)
theorem ztb (N : Nat) : Par (zc2 N).b := by
 intro x α β kn ke kn' ke' r r' h h1 h2
 revert h
 dsimp only [zc2]
 (repeat' (first | (with_reducible refine ze ?_ ?_) | split)) <;> intro h <;> first | exact h1 _ h | exact h2 _ h | cases h
theorem zoj (N : Nat) : Z3 (JQ qP [51]) (zx2 N) JI N (zbO N) 5 zfi (zc2 N) := λ x α kn ke => by kernel_rfl
theorem zok (N : Nat) : ZB qP JI N (zbO N) 5 (zb 5 zfi) :=
 zD (zL qP [51]) (zh _) zk JI N (zbO N) 5 zfi (l := [(14, zb 14 zfi)]) (by kernel_rfl) (by kernel_rfl) (al (zev N) an) (zc2 N) rfl (λ s x hc h => by dsimp only [zc2] at h; exact zG hc h (λ _ _ => rfl) rfl rfl rfl) (λ _ => rfl) (zoj N) (ztb N)
theorem ztc (N : Nat) : Zd (zom N).t := by
 intro x α β k k' r r' h h1
 revert h
 dsimp only [zom]
 (repeat' (first | (with_reducible refine ze ?_ ?_) | split)) <;> intro h <;> first | exact h1 _ h | cases h
theorem ztd (N : Nat) : Zg (JQ qP [51]) (zx2 N) JI (lam N (zbO N)) Tryd.f80 (zom N) := λ x => by kernel_rfl
def zDE (N : Nat) : Ent qP := zA (zL qP [51]) (zh _) zk 80 Tryd.f80 Tryd.func80 rfl JI (lam N (zbO N)) (zm (l := [(5, zb 5 zfi), (14, zb 14 zfi)]) (al (zok N) (al (zev N) an)) (by kernel_rfl)) (zom N) (λ _ => ⟨rfl, rfl⟩) (ztd N) (λ _ _ _ h => zw h (λ _ _ => rfl) (λ _ _ => rfl)) (ztc N)
def zbL : Nat -> Keep × Keep := anL [(8, ⟨[5], [], [], [(0, 9), (1, 9)], [], [], [], [], false, none, []⟩, qK [4] [] [])]
def zAC (N : Nat) : GamK := gam (P := qP) []
def Z6 (N : Nat) : LSpec where
 X := qL × qL × Int
 Y := (Bool) ⊕ (Unit)
 p := λ s => rdS 26 0 [(0, .lst 9), (1, .lst 9), (5, .int .i64)] [] s λ ⟨a0, a1, a2, _⟩ _ => (a0, a1, a2)
 st := λ u8 => mkS 26 [(0, (AV.list 9 u8.1 none)), (1, (AV.list 9 u8.2.1 none)), (5, (qI u8.2.2))] [] (zbL 8).1.toks 0
 out := λ y => match y with
  | .inl y => (.ret, mkS 26 [(4, (AV.v (.bool y)))] [] (zbL 8).2.toks 0)
  | .inr y => (.exit 0, mkS 26 [] [] (zbL 8).2.toks 0)
 b := λ u8 α kn ke => (match (decide (u8.2.2 < (u8.1.length : Int))) with | true => (if 0 <= u8.2.2 then (match u8.1[u8.2.2.toNat]? with | some c1 => (match Jy c1 with | some e2 => (if 0 <= u8.2.2 then (match u8.2.1[u8.2.2.toNat]? with | some c3 => (match Jy c3 with | some e4 => (match (!(((e2.1 == e4.1) && ((e2.2.1 == e4.2.1) && ((e2.2.2.1 == e4.2.2.1) && ((e2.2.2.2.1 == e4.2.2.2.1) && true)))) && ((e2.2.2.2.2.1 == e4.2.2.2.2.1) && ((e2.2.2.2.2.2.1 == e4.2.2.2.2.2.1) && ((e2.2.2.2.2.2.2.1 == e4.2.2.2.2.2.2.1) && ((e2.2.2.2.2.2.2.2.1 == e4.2.2.2.2.2.2.2.1) && ((e2.2.2.2.2.2.2.2.2.1 == e4.2.2.2.2.2.2.2.2.1) && true))))))) with | true => (ke (.inl false)) | false => (kn (u8.1, u8.2.1, (i64 (u8.2.2 + 1))))) | none => none) | none => none) else none) | none => none) | none => none) else none) | false => (ke (.inr ())))
abbrev zws (N : Nat) (x : qL × qL × Int) : Option ((Bool) ⊕ (Unit)) := (Z6 N).L N x
def zkI (N : Nat) : FSpec where
 X := qL × qL
 Y := Bool
 ash := [[some 9], [some 9]]
 S := ⟨[[none]], [], [], [], []⟩
 pat := λ a b => rdA [.lst 9, .lst 9] [] a b λ ⟨a0, a1, _⟩ _ => (a0, a1)
 args := λ x => [(AV.list 9 x.1 none), (AV.list 9 x.2 none)]
 ret := λ y => ⟨(AV.v (.bool y)), [], none, [], [], [], none⟩
 t := λ x α k => (match ((x.1.length : Int) != (x.2.length : Int)) with | true => (k false) | false => (match zws N (x.1, x.2, 0) with | some y5 => (match y5 with | .inl z6 => (k z6) | .inr z7 => (k true)) | none => none))
abbrev zhx (N : Nat) (x : qL × qL) : Option (Bool) := (zkI N).d x
def zgq (N : Nat) : List (Nat × LSpec) := [(8, Z6 N)]
def zsN : Code := Tryd.f74.body.getD .skip
theorem zsO (N : Nat) : Par (Z6 N).b := by
 intro x α β kn ke kn' ke' r r' h h1 h2
 revert h
 dsimp only [Z6]
 (repeat' (first | (with_reducible refine ze ?_ ?_) | split)) <;> intro h <;> first | exact h1 _ h | exact h2 _ h | cases h
theorem zn4 (N : Nat) : Z3 (zn qP) (zAC N) zbL N (zgq N) 8 zsN (Z6 N) := λ x α kn ke => by kernel_rfl
theorem zn5 (N : Nat) : ZB qP zbL N (zgq N) 8 (zb 8 zsN) :=
 zD (zc qP) (zh _) zk zbL N (zgq N) 8 zsN (l := []) (by kernel_rfl) (by kernel_rfl) an (Z6 N) rfl (λ s x hc h => by dsimp only [Z6] at h; exact zG hc h (λ _ _ => rfl) rfl rfl rfl) (λ _ => rfl) (zn4 N) (zsO N)
theorem zsP (N : Nat) : Zd (zkI N).t := by
 intro x α β k k' r r' h h1
 revert h
 dsimp only [zkI]
 (repeat' (first | (with_reducible refine ze ?_ ?_) | split)) <;> intro h <;> first | exact h1 _ h | cases h
theorem zsQ (N : Nat) : Zg (zn qP) (zAC N) zbL (lam N (zgq N)) Tryd.f74 (zkI N) := λ x => by kernel_rfl
def zAB (N : Nat) : Ent qP := zA (zc qP) (zh _) zk 74 Tryd.f74 Tryd.func74 rfl zbL (lam N (zgq N)) (zm (l := [(8, zb 8 zsN)]) (al (zn5 N) an) (by kernel_rfl)) (zkI N) (λ _ => ⟨rfl, rfl⟩) (zsQ N) (λ _ _ _ h => zw h (λ _ _ => rfl) (λ _ _ => rfl)) (zsP N)
def Jd : Nat -> Keep × Keep := anL [(4, ⟨[5], [], [], [(0, 9), (1, 9)], [], [], [], [], false, none, []⟩, qK [4] [] []), (12, ⟨[5, 6], [], [], [(0, 9), (1, 9)], [], [], [], [], false, none, []⟩, ⟨[4, 5], [], [], [(0, 9), (1, 9)], [], [], [], [], false, none, []⟩)]
def zx5 (N : Nat) : GamK := gam (P := qP) []
def Zy (N : Nat) : LSpec where
 X := qL × qL × Int × Int
 Y := (qL × qL × Bool × Int) ⊕ (qL × qL × Int)
 p := λ s => rdS 28 0 [(0, .lst 9), (1, .lst 9), (5, .int .i64), (6, .int .i64)] [] s λ ⟨a0, a1, a2, a3, _⟩ _ => (a0, a1, a2, a3)
 st := λ u12 => mkS 28 [(0, (AV.list 9 u12.1 none)), (1, (AV.list 9 u12.2.1 none)), (5, (qI u12.2.2.1)), (6, (qI u12.2.2.2))] [] (Jd 12).1.toks 0
 out := λ y => match y with
  | .inl y => (.ret, mkS 28 [(0, (AV.list 9 y.1 none)), (1, (AV.list 9 y.2.1 none)), (4, (AV.v (.bool y.2.2.1))), (5, (qI y.2.2.2))] [] (Jd 12).2.toks 0)
  | .inr y => (.exit 2, mkS 28 [(0, (AV.list 9 y.1 none)), (1, (AV.list 9 y.2.1 none)), (5, (qI y.2.2))] [] (Jd 12).2.toks 0)
 b := λ u12 α kn ke => (match (decide (u12.2.2.2 < (u12.2.1.length : Int))) with | true => (if 0 <= u12.2.2.1 then (match u12.1[u12.2.2.1.toNat]? with | some c1 => (match Jy c1 with | some e2 => (if 0 <= u12.2.2.2 then (match u12.2.1[u12.2.2.2.toNat]? with | some c3 => (match Jy c3 with | some e4 => (match (((e2.1 == e4.1) && ((e2.2.1 == e4.2.1) && ((e2.2.2.1 == e4.2.2.1) && ((e2.2.2.2.1 == e4.2.2.2.1) && true)))) && ((e2.2.2.2.2.1 == e4.2.2.2.2.1) && ((e2.2.2.2.2.2.1 == e4.2.2.2.2.2.1) && ((e2.2.2.2.2.2.2.1 == e4.2.2.2.2.2.2.1) && ((e2.2.2.2.2.2.2.2.1 == e4.2.2.2.2.2.2.2.1) && ((e2.2.2.2.2.2.2.2.2.1 == e4.2.2.2.2.2.2.2.2.1) && true)))))) with | true => (ke (.inl (u12.1, u12.2.1, true, u12.2.2.1))) | false => (kn (u12.1, u12.2.1, u12.2.2.1, (i64 (u12.2.2.2 + 1))))) | none => none) | none => none) else none) | none => none) | none => none) else none) | false => (ke (.inr (u12.1, u12.2.1, u12.2.2.1))))
abbrev zhz (N : Nat) (x : qL × qL × Int × Int) : Option ((qL × qL × Bool × Int) ⊕ (qL × qL × Int)) := (Zy N).L N x
def Z7 (N : Nat) : LSpec where
 X := qL × qL × Int
 Y := (Bool) ⊕ (Unit)
 p := λ s => rdS 28 0 [(0, .lst 9), (1, .lst 9), (5, .int .i64)] [] s λ ⟨a0, a1, a2, _⟩ _ => (a0, a1, a2)
 st := λ u4 => mkS 28 [(0, (AV.list 9 u4.1 none)), (1, (AV.list 9 u4.2.1 none)), (5, (qI u4.2.2))] [] (Jd 4).1.toks 0
 out := λ y => match y with
  | .inl y => (.ret, mkS 28 [(4, (AV.v (.bool y)))] [] (Jd 4).2.toks 0)
  | .inr y => (.exit 0, mkS 28 [] [] (Jd 4).2.toks 0)
 b := λ u4 α kn ke => (match (decide (u4.2.2 < (u4.1.length : Int))) with | true => (match zhz N (u4.1, u4.2.1, u4.2.2, 0) with | some y5 => (match y5 with | .inl z6 => (ke (.inl z6.2.2.1)) | .inr z7 => (kn (z7.1, z7.2.1, (i64 (z7.2.2 + 1))))) | none => none) | false => (ke (.inr ())))
abbrev zwx (N : Nat) (x : qL × qL × Int) : Option ((Bool) ⊕ (Unit)) := (Z7 N).L N x
def zkN (N : Nat) : FSpec where
 X := qL × qL
 Y := Bool
 ash := [[some 9], [some 9]]
 S := ⟨[[none]], [], [], [], []⟩
 pat := λ a b => rdA [.lst 9, .lst 9] [] a b λ ⟨a0, a1, _⟩ _ => (a0, a1)
 args := λ x => [(AV.list 9 x.1 none), (AV.list 9 x.2 none)]
 ret := λ y => ⟨(AV.v (.bool y)), [], none, [], [], [], none⟩
 t := λ x α k => (match zwx N (x.1, x.2, 0) with | some y8 => (match y8 with | .inl z9 => (k z9) | .inr z10 => (k false)) | none => none)
abbrev zx4 (N : Nat) (x : qL × qL) : Option (Bool) := (zkN N).d x
def zbP (N : Nat) : List (Nat × LSpec) := [(4, Z7 N), (12, Zy N)]
def zfj : Code := Tryd.f82.body.getD .skip
theorem zoq (N : Nat) : Par (Zy N).b := by
 intro x α β kn ke kn' ke' r r' h h1 h2
 revert h
 dsimp only [Zy]
 (repeat' (first | (with_reducible refine ze ?_ ?_) | split)) <;> intro h <;> first | exact h1 _ h | exact h2 _ h | cases h
theorem zkM (N : Nat) : Z3 (zn qP) (zx5 N) Jd N (zbP N) 12 zfj (Zy N) := λ x α kn ke => by kernel_rfl
theorem zew (N : Nat) : ZB qP Jd N (zbP N) 12 (zb 12 zfj) :=
 zD (zc qP) (zh _) zk Jd N (zbP N) 12 zfj (l := []) (by kernel_rfl) (by kernel_rfl) an (Zy N) rfl (λ s x hc h => by dsimp only [Zy] at h; exact zG hc h (λ _ _ => rfl) rfl rfl rfl) (λ _ => rfl) (zkM N) (zoq N)
theorem ztg (N : Nat) : Par (Z7 N).b := by
 intro x α β kn ke kn' ke' r r' h h1 h2
 revert h
 dsimp only [Z7]
 (repeat' (first | (with_reducible refine ze ?_ ?_) | split)) <;> intro h <;> first | exact h1 _ h | exact h2 _ h | cases h
theorem zoo (N : Nat) : Z3 (zn qP) (zx5 N) Jd N (zbP N) 4 zfj (Z7 N) := λ x α kn ke => by kernel_rfl
theorem zop (N : Nat) : ZB qP Jd N (zbP N) 4 (zb 4 zfj) :=
 zD (zc qP) (zh _) zk Jd N (zbP N) 4 zfj (l := [(12, zb 12 zfj)]) (by kernel_rfl) (by kernel_rfl) (al (zew N) an) (Z7 N) rfl (λ s x hc h => by dsimp only [Z7] at h; exact zG hc h (λ _ _ => rfl) rfl rfl rfl) (λ _ => rfl) (zoo N) (ztg N)
theorem zth (N : Nat) : Zd (zkN N).t := by
 intro x α β k k' r r' h h1
 revert h
 dsimp only [zkN]
 (repeat' (first | (with_reducible refine ze ?_ ?_) | split)) <;> intro h <;> first | exact h1 _ h | cases h
theorem zti (N : Nat) : Zg (zn qP) (zx5 N) Jd (lam N (zbP N)) Tryd.f82 (zkN N) := λ x => by kernel_rfl
def zDG (N : Nat) : Ent qP := zA (zc qP) (zh _) zk 82 Tryd.f82 Tryd.func82 rfl Jd (lam N (zbP N)) (zm (l := [(4, zb 4 zfj), (12, zb 12 zfj)]) (al (zop N) (al (zew N) an)) (by kernel_rfl)) (zkN N) (λ _ => ⟨rfl, rfl⟩) (zti N) (λ _ _ _ h => zw h (λ _ _ => rfl) (λ _ _ => rfl)) (zth N)
def Jb : Nat -> Keep × Keep := anL [(4, ⟨[3], [], [], [(0, 25)], [], [], [], [], false, none, []⟩, qK [2] [] []), (17, ⟨[3, 5], [], [], [(0, 25), (4, 9)], [], [], [], [], false, none, []⟩, ⟨[2, 3], [], [], [(0, 25)], [], [], [], [], false, none, []⟩)]
def zxO (N : Nat) : GamK := gam (P := qP) [zDB N, zDE N, zAB N, zAS N, zDG N]
def ZR (N : Nat) : LSpec where
 X := qL × qL × Int × Int
 Y := (qL × Bool × Int) ⊕ (qL × Int)
 p := λ s => rdS 70 0 [(0, .lst 25), (4, .lst 9), (3, .int .i64), (5, .int .i64)] [] s λ ⟨a0, a1, a2, a3, _⟩ _ => (a0, a1, a2, a3)
 st := λ u17 => mkS 70 [(0, (AV.list 25 u17.1 none)), (4, (AV.list 9 u17.2.1 none)), (3, (qI u17.2.2.1)), (5, (qI u17.2.2.2))] [] (Jb 17).1.toks 0
 out := λ y => match y with
  | .inl y => (.ret, mkS 70 [(0, (AV.list 25 y.1 none)), (2, (AV.v (.bool y.2.1))), (3, (qI y.2.2))] [] (Jb 17).2.toks 0)
  | .inr y => (.exit 2, mkS 70 [(0, (AV.list 25 y.1 none)), (3, (qI y.2))] [] (Jb 17).2.toks 0)
 b := λ u17 α kn ke => (match (decide (u17.2.2.2 < u17.2.2.1)) with | true => (if 0 <= u17.2.2.2 then (match u17.1[u17.2.2.2.toNat]? with | some c14 => (match ((c14.drop 9).drop 0)[0]? with | some x15 => (match jZ 9 x15 with | some l16 => (match zx4 N (u17.2.1, l16) with | some y17 => (match y17 with | true => (ke (.inl (u17.1, false, u17.2.2.1))) | false => (kn (u17.1, u17.2.1, u17.2.2.1, (i64 (u17.2.2.2 + 1))))) | none => none) | none => none) | none => none) | none => none) else none) | false => (ke (.inr (u17.1, u17.2.2.1))))
abbrev zfe (N : Nat) (x : qL × qL × Int × Int) : Option ((qL × Bool × Int) ⊕ (qL × Int)) := (ZR N).L N x
def jH (N : Nat) : LSpec where
 X := qL × Int
 Y := (Bool) ⊕ (Unit)
 p := λ s => rdS 70 0 [(0, .lst 25), (3, .int .i64)] [] s λ ⟨a0, a1, _⟩ _ => (a0, a1)
 st := λ u4 => mkS 70 [(0, (AV.list 25 u4.1 none)), (3, (qI u4.2))] [] (Jb 4).1.toks 0
 out := λ y => match y with
  | .inl y => (.ret, mkS 70 [(2, (AV.v (.bool y)))] [] (Jb 4).2.toks 0)
  | .inr y => (.exit 0, mkS 70 [] [] (Jb 4).2.toks 0)
 b := λ u4 α kn ke => (match (decide (u4.2 < (u4.1.length : Int))) with | true => (if 0 <= u4.2 then (match u4.1[u4.2.toNat]? with | some c1 => (match ((c1.drop 9).drop 0)[0]? with | some x2 => (match jZ 9 x2 with | some l3 => (match ((l3.length : Int) == 0) with | true => (ke (.inl false)) | false => (if 0 <= u4.2 then (match u4.1[u4.2.toNat]? with | some c4 => (match Jy (c4.drop 0) with | some e5 => (match zAI N l3 with | some y6 => (match (!(((e5.1 == y6.1) && ((e5.2.1 == y6.2.1) && ((e5.2.2.1 == y6.2.2.1) && ((e5.2.2.2.1 == y6.2.2.2.1) && true)))) && ((e5.2.2.2.2.1 == y6.2.2.2.2.1) && ((e5.2.2.2.2.2.1 == y6.2.2.2.2.2.1) && ((e5.2.2.2.2.2.2.1 == y6.2.2.2.2.2.2.1) && ((e5.2.2.2.2.2.2.2.1 == y6.2.2.2.2.2.2.2.1) && ((e5.2.2.2.2.2.2.2.2.1 == y6.2.2.2.2.2.2.2.2.1) && true))))))) with | true => (ke (.inl false)) | false => (match zAQ N l3 with | some y7 => (match zhx N (l3, y7) with | some y8 => (match (!y8) with | true => (ke (.inl false)) | false => (match (decide (u4.2 > 0)) with | true => (if 0 <= (i64 (u4.2 - 1)) then (match u4.1[(i64 (u4.2 - 1)).toNat]? with | some c9 => (match Jy (c9.drop 0) with | some e10 => (if 0 <= u4.2 then (match u4.1[u4.2.toNat]? with | some c11 => (match Jy (c11.drop 0) with | some e12 => (match zx3 N (e10, e12) with | some y13 => (match (decide (y13 >= 0)) with | true => (ke (.inl false)) | false => (match zfe N (u4.1, l3, u4.2, 0) with | some y18 => (match y18 with | .inl z19 => (ke (.inl z19.2.1)) | .inr z20 => (kn (z20.1, (i64 (z20.2 + 1))))) | none => none)) | none => none) | none => none) | none => none) else none) | none => none) | none => none) else none) | false => (match zfe N (u4.1, l3, u4.2, 0) with | some y21 => (match y21 with | .inl z22 => (ke (.inl z22.2.1)) | .inr z23 => (kn (z23.1, (i64 (z23.2 + 1))))) | none => none))) | none => none) | none => none)) | none => none) | none => none) | none => none) else none)) | none => none) | none => none) | none => none) else none) | false => (ke (.inr ())))
abbrev zwb (N : Nat) (x : qL × Int) : Option ((Bool) ⊕ (Unit)) := (jH N).L N x
def zks (N : Nat) : FSpec where
 X := qL
 Y := Bool
 ash := [[some 25]]
 S := ⟨[[none]], [], [], [], []⟩
 pat := λ a b => rdA [.lst 25] [] a b λ ⟨a0, _⟩ _ => a0
 args := λ x => [(AV.list 25 x none)]
 ret := λ y => ⟨(AV.v (.bool y)), [], none, [], [], [], none⟩
 t := λ x α k => (match zwb N (x, 0) with | some y24 => (match y24 with | .inl z25 => (k z25) | .inr z26 => (k true)) | none => none)
abbrev zfd (N : Nat) (x : qL) : Option (Bool) := (zks N).d x
def zbG (N : Nat) : List (Nat × LSpec) := [(4, jH N), (17, ZR N)]
def zfc : Code := Tryd.f56.body.getD .skip
theorem znz (N : Nat) : Par (ZR N).b := by
 intro x α β kn ke kn' ke' r r' h h1 h2
 revert h
 dsimp only [ZR]
 (repeat' (first | (with_reducible refine ze ?_ ?_) | split)) <;> intro h <;> first | exact h1 _ h | exact h2 _ h | cases h
theorem zkr (N : Nat) : Z3 (zn qP) (zxO N) Jb N (zbG N) 17 zfc (ZR N) := λ x α kn ke => by kernel_rfl
theorem zer (N : Nat) : ZB qP Jb N (zbG N) 17 (zb 17 zfc) :=
 zD (zc qP) (zh _) zk Jb N (zbG N) 17 zfc (l := []) (by kernel_rfl) (by kernel_rfl) an (ZR N) rfl (λ s x hc h => by dsimp only [ZR] at h; exact zG hc h (λ _ _ => rfl) rfl rfl rfl) (λ _ => rfl) (zkr N) (znz N)
theorem zr5 (N : Nat) : Par (jH N).b := by
 intro x α β kn ke kn' ke' r r' h h1 h2
 revert h
 dsimp only [jH]
 (repeat' (first | (with_reducible refine ze ?_ ?_) | split)) <;> intro h <;> first | exact h1 _ h | exact h2 _ h | cases h
theorem znx (N : Nat) : Z3 (zn qP) (zxO N) Jb N (zbG N) 4 zfc (jH N) := λ x α kn ke => by kernel_rfl
theorem zny (N : Nat) : ZB qP Jb N (zbG N) 4 (zb 4 zfc) :=
 zD (zc qP) (zh _) zk Jb N (zbG N) 4 zfc (l := [(17, zb 17 zfc)]) (by kernel_rfl) (by kernel_rfl) (al (zer N) an) (jH N) rfl (λ s x hc h => by dsimp only [jH] at h; exact zG hc h (λ _ _ => rfl) rfl rfl rfl) (λ _ => rfl) (znx N) (zr5 N)
theorem zr6 (N : Nat) : Zd (zks N).t := by
 intro x α β k k' r r' h h1
 revert h
 dsimp only [zks]
 (repeat' (first | (with_reducible refine ze ?_ ?_) | split)) <;> intro h <;> first | exact h1 _ h | cases h
theorem zr7 (N : Nat) : Zg (zn qP) (zxO N) Jb (lam N (zbG N)) Tryd.f56 (zks N) := λ x => by kernel_rfl
def zxN (N : Nat) : Ent qP := zA (zc qP) (zh _) zk 56 Tryd.f56 Tryd.func56 rfl Jb (lam N (zbG N)) (zm (l := [(4, zb 4 zfc), (17, zb 17 zfc)]) (al (zny N) (al (zer N) an)) (by kernel_rfl)) (zks N) (λ _ => ⟨rfl, rfl⟩) (zr7 N) (λ _ _ _ h => zw h (λ _ _ => rfl) (λ _ _ => rfl)) (zr6 N)
abbrev RK6 : List Ck := [.sl 29]
abbrev RT6 : Type := qL × Unit
def zdO (c : List AV) : Option RT6 := dec RK6 c
abbrev RK7 : List Ck := [.int .i64, .int .i64, .str, .int .i64, .str, .str, .str, .str, .int .i64, .int .i64, .int .i64, .int .i64, .int .i64, .sl 9, .int .i64, .int .i64, .int .i64, .int .i64, .int .i64, .int .i64, .int .i64, .int .i64, .int .i64, .int .i64, .int .i64, .int .i64, .int .i64, .int .i64, .int .i64]
abbrev RT7 : Type := Int × Int × ByteArray × Int × ByteArray × ByteArray × ByteArray × ByteArray × Int × Int × Int × Int × Int × qL × Int × Int × Int × Int × Int × Int × Int × Int × Int × Int × Int × Int × Int × Int × Int × Unit
def zkY (c : List AV) : Option RT7 := dec RK7 c
def zQ (e : RT7) : List AV := enc RK7 e
theorem zyg (e : RT7) : zkY (zQ e) = some e := zfE (ks := RK7) e rfl
@[reducible] def zx (e : RT7) : RT0 := (e.2.2.2.2)
def zvA : Nat -> Keep × Keep := anL []
def zCx (N : Nat) : GamK := gam (P := qP) []
def zjP (N : Nat) : FSpec where
 X := RT7
 Y := Bool
 ash := [[none, none, none, none, none, none, none, none, none, none, none, none, none, some 9, none, none, none, none, none, none, none, none, none, none, none, none, none, none, none]]
 S := ⟨[[none]], [], [], [], []⟩
 pat := λ a b => rdA [.agg RK7] [] a b λ ⟨a0, _⟩ _ => a0
 args := λ x => [(AV.agg (zQ x))]
 ret := λ y => ⟨(AV.v (.bool y)), [], none, [], [], [], none⟩
 t := λ x α k => (match (x.1 == 1) with | true => (k true) | false => (match (x.1 == 2) with | true => (k true) | false => (k (x.1 == 6))))
abbrev ze0 (N : Nat) (x : RT7) : Option (Bool) := (zjP N).d x
theorem zqw (N : Nat) : Zd (zjP N).t := by
 intro x α β k k' r r' h h1
 revert h
 dsimp only [zjP]
 (repeat' (first | (with_reducible refine ze ?_ ?_) | split)) <;> intro h <;> first | exact h1 _ h | cases h
theorem zqx (N : Nat) : Zg (zn qP) (zCx N) zvA (lam N []) Tryd.f15 (zjP N) := λ x => by kernel_rfl
def zqv (N : Nat) : Ent qP := zA (zc qP) (zh _) zk 15 Tryd.f15 Tryd.func15 rfl zvA (lam N []) (zm (l := []) an (by kernel_rfl)) (zjP N) (λ _ => ⟨rfl, rfl⟩) (zqx N) (λ _ _ _ h => zw h (λ _ _ => rfl) (λ _ _ => rfl)) (zqw N)
def zwH : Nat -> Keep × Keep := anL []
def zDY (N : Nat) : GamK := gam (P := qP) [zqv N]
def zkW (N : Nat) : FSpec where
 X := RT7 × RT7
 Y := Bool
 ash := [[none, none, none, none, none, none, none, none, none, none, none, none, none, some 9, none, none, none, none, none, none, none, none, none, none, none, none, none, none, none], [none, none, none, none, none, none, none, none, none, none, none, none, none, some 9, none, none, none, none, none, none, none, none, none, none, none, none, none, none, none]]
 S := ⟨[[none]], [], [], [], []⟩
 pat := λ a b => rdA [.agg RK7, .agg RK7] [] a b λ ⟨a0, a1, _⟩ _ => (a0, a1)
 args := λ x => [(AV.agg (zQ x.1)), (AV.agg (zQ x.2))]
 ret := λ y => ⟨(AV.v (.bool y)), [], none, [], [], [], none⟩
 t := λ x α k => (match (x.1.1 == 1) with | true => (match ze0 N x.2 with | some y1 => (k y1) | none => none) | false => (match (x.1.1 == 2) with | true => (match (x.2.1 == 1) with | true => (k true) | false => (k (x.2.1 == 6))) | false => (match (x.1.1 == 6) with | true => (match ze0 N x.2 with | some y2 => (k (!y2)) | none => none) | false => (k true))))
abbrev zkV (N : Nat) (x : RT7 × RT7) : Option (Bool) := (zkW N).d x
theorem ztV (N : Nat) : Zd (zkW N).t := by
 intro x α β k k' r r' h h1
 revert h
 dsimp only [zkW]
 (repeat' (first | (with_reducible refine ze ?_ ?_) | split)) <;> intro h <;> first | exact h1 _ h | cases h
theorem ztW (N : Nat) : Zg (zn qP) (zDY N) zwH (lam N []) Tryd.f96 (zkW N) := λ x => by kernel_rfl
def zDX (N : Nat) : Ent qP := zA (zc qP) (zh _) zk 96 Tryd.f96 Tryd.func96 rfl zwH (lam N []) (zm (l := []) an (by kernel_rfl)) (zkW N) (λ _ => ⟨rfl, rfl⟩) (ztW N) (λ _ _ _ h => zw h (λ _ _ => rfl) (λ _ _ => rfl)) (ztV N)
def zwu : Nat -> Keep × Keep := anL []
def zDz (N : Nat) : GamK := gam (P := qP) []
def zkJ (N : Nat) : FSpec where
 X := Int
 Y := Bool
 ash := [[none]]
 S := ⟨[[none]], [], [], [], []⟩
 pat := λ a b => rdA [.int .i64] [] a b λ ⟨a0, _⟩ _ => a0
 args := λ x => [(AV.v (.int .i64 x))]
 ret := λ y => ⟨(AV.v (.bool y)), [], none, [], [], [], none⟩
 t := λ x α k => (match (x != 1) with | true => (k (x != 3)) | false => (k false))
abbrev zhy (N : Nat) (x : Int) : Option (Bool) := (zkJ N).d x
theorem zsY (N : Nat) : Zd (zkJ N).t := by
 intro x α β k k' r r' h h1
 revert h
 dsimp only [zkJ]
 (repeat' (first | (with_reducible refine ze ?_ ?_) | split)) <;> intro h <;> first | exact h1 _ h | cases h
theorem zsZ (N : Nat) : Zg (zn qP) (zDz N) zwu (lam N []) Tryd.f77 (zkJ N) := λ x => by kernel_rfl
def zAH (N : Nat) : Ent qP := zA (zc qP) (zh _) zk 77 Tryd.f77 Tryd.func77 rfl zwu (lam N []) (zm (l := []) an (by kernel_rfl)) (zkJ N) (λ _ => ⟨rfl, rfl⟩) (zsZ N) (λ _ _ _ h => zw h (λ _ _ => rfl) (λ _ _ => rfl)) (zsY N)
def zv2 : Nat -> Keep × Keep := anL []
def zC6 (N : Nat) : GamK := gam (P := qP) [zAB N]
def zkk (N : Nat) : FSpec where
 X := RT3 × RT3
 Y := Bool
 ash := [[some 9, none, none, none, none, none, none, none, none, none, none, none, none, none, none, none], [some 9, none, none, none, none, none, none, none, none, none, none, none, none, none, none, none]]
 S := ⟨[[none]], [], [], [], []⟩
 pat := λ a b => rdA [.agg RK3, .agg RK3] [] a b λ ⟨a0, a1, _⟩ _ => (a0, a1)
 args := λ x => [(AV.agg (zCe x.1)), (AV.agg (zCe x.2))]
 ret := λ y => ⟨(AV.v (.bool y)), [], none, [], [], [], none⟩
 t := λ x α k => (match zhx N (x.1.1, x.2.1) with | some y1 => (match y1 with | true => (match (((x.1.2.1 == x.2.2.1) && ((x.1.2.2.1 == x.2.2.2.1) && ((x.1.2.2.2.1 == x.2.2.2.2.1) && true))) && ((x.1.2.2.2.2.1 == x.2.2.2.2.2.1) && ((x.1.2.2.2.2.2.1 == x.2.2.2.2.2.2.1) && ((x.1.2.2.2.2.2.2.1 == x.2.2.2.2.2.2.2.1) && ((((x.1.2.2.2.2.2.2.2.1 == x.2.2.2.2.2.2.2.2.1) && ((x.1.2.2.2.2.2.2.2.2.1 == x.2.2.2.2.2.2.2.2.2.1) && ((x.1.2.2.2.2.2.2.2.2.2.1 == x.2.2.2.2.2.2.2.2.2.2.1) && true))) && (((x.1.2.2.2.2.2.2.2.2.2.2.1 == x.2.2.2.2.2.2.2.2.2.2.2.1) && ((x.1.2.2.2.2.2.2.2.2.2.2.2.1 == x.2.2.2.2.2.2.2.2.2.2.2.2.1) && ((x.1.2.2.2.2.2.2.2.2.2.2.2.2.1 == x.2.2.2.2.2.2.2.2.2.2.2.2.2.1) && true))) && true)) && true))))) with | true => (match ((x.1.2.2.2.2.2.2.2.2.2.2.2.2.2.1 == x.2.2.2.2.2.2.2.2.2.2.2.2.2.2.1) && ((x.1.2.2.2.2.2.2.2.2.2.2.2.2.2.2.1 == x.2.2.2.2.2.2.2.2.2.2.2.2.2.2.2.1) && true)) with | true => (k (x.1.2.2.2.2.2.2.2.2.2.2.2.2.2.2.2.1 == x.2.2.2.2.2.2.2.2.2.2.2.2.2.2.2.2.1)) | false => (k false)) | false => (k false)) | false => (k false)) | none => none)
abbrev zm3 (N : Nat) (x : RT3 × RT3) : Option (Bool) := (zkk N).d x
theorem zrH (N : Nat) : Zd (zkk N).t := by
 intro x α β k k' r r' h h1
 revert h
 dsimp only [zkk]
 (repeat' (first | (with_reducible refine ze ?_ ?_) | split)) <;> intro h <;> first | exact h1 _ h | cases h
theorem zrI (N : Nat) : Zg (zn qP) (zC6 N) zv2 (lam N []) Tryd.f49 (zkk N) := λ x => by kernel_rfl
def zz7 (N : Nat) : Ent qP := zA (zc qP) (zh _) zk 49 Tryd.f49 Tryd.func49 rfl zv2 (lam N []) (zm (l := []) an (by kernel_rfl)) (zkk N) (λ _ => ⟨rfl, rfl⟩) (zrI N) (λ _ _ _ h => zw h (λ _ _ => rfl) (λ _ _ => rfl)) (zrH N)
def zvU : Nat -> Keep × Keep := anL []
def zCU (N : Nat) : GamK := gam (P := qP) [zz7 N]
def zka (N : Nat) : FSpec where
 X := RT0 × RT0
 Y := Bool
 ash := [[none, none, none, none, none, none, none, none, none, some 9, none, none, none, none, none, none, none, none, none, none, none, none, none, none, none], [none, none, none, none, none, none, none, none, none, some 9, none, none, none, none, none, none, none, none, none, none, none, none, none, none, none]]
 S := ⟨[[none]], [], [], [], []⟩
 pat := λ a b => rdA [.agg RK0, .agg RK0] [] a b λ ⟨a0, a1, _⟩ _ => (a0, a1)
 args := λ x => [(AV.agg (zB x.1)), (AV.agg (zB x.2))]
 ret := λ y => ⟨(AV.v (.bool y)), [], none, [], [], [], none⟩
 t := λ x α k => (match (((x.1.1 == x.2.1) && ((x.1.2.1 == x.2.2.1) && ((x.1.2.2.1 == x.2.2.2.1) && ((x.1.2.2.2.1 == x.2.2.2.2.1) && true)))) && ((x.1.2.2.2.2.1 == x.2.2.2.2.2.1) && ((x.1.2.2.2.2.2.1 == x.2.2.2.2.2.2.1) && ((x.1.2.2.2.2.2.2.1 == x.2.2.2.2.2.2.2.1) && ((x.1.2.2.2.2.2.2.2.1 == x.2.2.2.2.2.2.2.2.1) && ((x.1.2.2.2.2.2.2.2.2.1 == x.2.2.2.2.2.2.2.2.2.1) && true)))))) with | true => (match zm3 N ((zC x.1), (zC x.2)) with | some y1 => (k y1) | none => none) | false => (k false))
abbrev zdX (N : Nat) (x : RT0 × RT0) : Option (Bool) := (zka N).d x
theorem zri (N : Nat) : Zd (zka N).t := by
 intro x α β k k' r r' h h1
 revert h
 dsimp only [zka]
 (repeat' (first | (with_reducible refine ze ?_ ?_) | split)) <;> intro h <;> first | exact h1 _ h | cases h
theorem zrj (N : Nat) : Zg (zn qP) (zCU N) zvU (lam N []) Tryd.f40 (zka N) := λ x => by kernel_rfl
def zzX (N : Nat) : Ent qP := zA (zc qP) (zh _) zk 40 Tryd.f40 Tryd.func40 rfl zvU (lam N []) (zm (l := []) an (by kernel_rfl)) (zka N) (λ _ => ⟨rfl, rfl⟩) (zrj N) (λ _ _ _ h => zw h (λ _ _ => rfl) (λ _ _ => rfl)) (zri N)
def zbM : Nat -> Keep × Keep := anL [(4, qK [0, 3] [] [], qK [0, 2] [] [])]
def zAG (N : Nat) : GamK := gam (P := qP) []
def zcX (N : Nat) : LSpec where
 X := ByteArray × Int
 Y := (ByteArray × Bool) ⊕ (ByteArray)
 p := λ s => rdS 28 0 [(0, .str), (3, .int .i64)] [] s λ ⟨a0, a1, _⟩ _ => (a0, a1)
 st := λ u4 => mkS 28 [(0, (AV.v (.string u4.1))), (3, (qI u4.2))] [] (zbM 4).1.toks 0
 out := λ y => match y with
  | .inl y => (.ret, mkS 28 [(0, (AV.v (.string y.1))), (2, (AV.v (.bool y.2)))] [] (zbM 4).2.toks 0)
  | .inr y => (.exit 0, mkS 28 [(0, (AV.v (.string y)))] [] (zbM 4).2.toks 0)
 b := λ u4 α kn ke => (match (decide (u4.2 < (u4.1.size : Int))) with | true => (if 0 <= u4.2 then (match u4.1[u4.2.toNat]? with | some c1 => (match (decide ((c1.toNat : Int) < 97)) with | true => (ke (.inl (u4.1, false))) | false => (if 0 <= u4.2 then (match u4.1[u4.2.toNat]? with | some c2 => (match (decide ((c2.toNat : Int) > 122)) with | true => (ke (.inl (u4.1, false))) | false => (kn (u4.1, (i64 (u4.2 + 1))))) | none => none) else none)) | none => none) else none) | false => (ke (.inr u4.1)))
abbrev zAE (N : Nat) (x : ByteArray × Int) : Option ((ByteArray × Bool) ⊕ (ByteArray)) := (zcX N).L N x
def zn8 (N : Nat) : FSpec where
 X := ByteArray
 Y := Bool
 ash := [[none]]
 S := ⟨[[none]], [], [], [], []⟩
 pat := λ a b => rdA [.str] [] a b λ ⟨a0, _⟩ _ => a0
 args := λ x => [(AV.v (.string x))]
 ret := λ y => ⟨(AV.v (.bool y)), [], none, [], [], [], none⟩
 t := λ x α k => (match zAE N (x, 0) with | some y3 => (match y3 with | .inl z4 => (k z4.2) | .inr z5 => (match (decide ((z5.size : Int) >= 1)) with | true => (k (decide ((z5.size : Int) <= 16))) | false => (k false))) | none => none)
abbrev zsU (N : Nat) (x : ByteArray) : Option (Bool) := (zn8 N).d x
def zgr (N : Nat) : List (Nat × LSpec) := [(4, zcX N)]
def zsT : Code := Tryd.f76.body.getD .skip
theorem zsV (N : Nat) : Par (zcX N).b := by
 intro x α β kn ke kn' ke' r r' h h1 h2
 revert h
 dsimp only [zcX]
 (repeat' (first | (with_reducible refine ze ?_ ?_) | split)) <;> intro h <;> first | exact h1 _ h | exact h2 _ h | cases h
theorem zn6 (N : Nat) : Z3 (zn qP) (zAG N) zbM N (zgr N) 4 zsT (zcX N) := λ x α kn ke => by kernel_rfl
theorem zn7 (N : Nat) : ZB qP zbM N (zgr N) 4 (zb 4 zsT) :=
 zD (zc qP) (zh _) zk zbM N (zgr N) 4 zsT (l := []) (by kernel_rfl) (by kernel_rfl) an (zcX N) rfl (λ s x hc h => by dsimp only [zcX] at h; exact zG hc h (λ _ _ => rfl) rfl rfl rfl) (λ _ => rfl) (zn6 N) (zsV N)
theorem zsW (N : Nat) : Zd (zn8 N).t := by
 intro x α β k k' r r' h h1
 revert h
 dsimp only [zn8]
 (repeat' (first | (with_reducible refine ze ?_ ?_) | split)) <;> intro h <;> first | exact h1 _ h | cases h
theorem zsX (N : Nat) : Zg (zn qP) (zAG N) zbM (lam N (zgr N)) Tryd.f76 (zn8 N) := λ x => by kernel_rfl
def zAF (N : Nat) : Ent qP := zA (zc qP) (zh _) zk 76 Tryd.f76 Tryd.func76 rfl zbM (lam N (zgr N)) (zm (l := [(4, zb 4 zsT)]) (al (zn7 N) an) (by kernel_rfl)) (zn8 N) (λ _ => ⟨rfl, rfl⟩) (zsX N) (λ _ _ _ h => zw h (λ _ _ => rfl) (λ _ _ => rfl)) (zsW N)
def Jc : Nat -> Keep × Keep := anL [(4, qK [1, 2, 3, 7] [] [3], qK [3, 6] [] [3]), (16, ⟨[1, 2, 3, 7, 8], [], [3, 8], [], [], [], [], [], true, none, []⟩, qK [1, 2, 3, 6, 7, 8] [] [3, 8])]
def zxZ (N : Nat) : GamK := gam (P := qP) [zxN N, zAF N, zDX N, zAH N, zzX N]
def Jj (N : Nat) : LSpec where
 X := Int × Int × Int × qL × RT7
 Y := (Int × Int × Bool × Int × qL × RT7) ⊕ (Int × Int × Int × qL × RT7)
 p := λ s => rdS 147 0 [(1, .int .i64), (2, .int .i64), (3, .ptr 3 0), (7, .int .i64), (8, .ptr 8 0)] [(3, .cells [.lst 29]), (8, .row RK7)] s λ ⟨a0, a1, _, a2, _, _⟩ ⟨⟨a3, _⟩, a4, _⟩ => (a0, a1, a2, a3, a4)
 st := λ u16 => mkS 147 [(1, (qI u16.1)), (2, (qI u16.2.1)), (3, (AV.ptr 3 0)), (7, (qI u16.2.2.1)), (8, (AV.ptr 8 0))] [(3, [(AV.list 29 u16.2.2.2.1 none)]), (8, (zQ u16.2.2.2.2))] (Jc 16).1.toks 0
 out := λ y => match y with
  | .inl y => (.ret, mkS 147 [(1, (qI y.1)), (2, (qI y.2.1)), (3, (AV.ptr 3 0)), (6, (AV.v (.bool y.2.2.1))), (7, (qI y.2.2.2.1)), (8, (AV.ptr 8 0))] [(3, [(AV.list 29 y.2.2.2.2.1 none)]), (8, (zQ y.2.2.2.2.2))] (Jc 16).2.toks 0)
  | .inr y => (.normal, mkS 147 [(1, (qI y.1)), (2, (qI y.2.1)), (3, (AV.ptr 3 0)), (7, (qI y.2.2.1)), (8, (AV.ptr 8 0))] [(3, [(AV.list 29 y.2.2.2.1 none)]), (8, (zQ y.2.2.2.2))] (Jc 16).2.toks 0)
 b := λ u16 α kn ke => (match (u16.2.2.2.2.1 == 1) with | true => (match (!(u16.2.2.2.2.2.2.1.toList == (⟨#[]⟩ : ByteArray).toList)) with | true => (ke (.inl (u16.1, u16.2.1, false, u16.2.2))) | false => (ke (.inr u16))) | false => (match (u16.2.2.2.2.1 == 2) with | true => (match (!(u16.2.2.2.2.2.2.1.toList == (⟨#[]⟩ : ByteArray).toList)) with | true => (ke (.inl (u16.1, u16.2.1, false, u16.2.2))) | false => (match (!(u16.2.2.2.2.1 == 2)) with | true => (match zsU N u16.2.2.2.2.2.2.1 with | some y8 => (match (!y8) with | true => (ke (.inl (u16.1, u16.2.1, false, u16.2.2))) | false => (ke (.inr u16))) | none => none) | false => (ke (.inr u16)))) | false => (match (!(u16.2.2.2.2.1 == 2)) with | true => (match zsU N u16.2.2.2.2.2.2.1 with | some y9 => (match (!y9) with | true => (ke (.inl (u16.1, u16.2.1, false, u16.2.2))) | false => (ke (.inr u16))) | none => none) | false => (ke (.inr u16)))))
abbrev zoa (N : Nat) (x : Int × Int × Int × qL × RT7) : Option ((Int × Int × Bool × Int × qL × RT7) ⊕ (Int × Int × Int × qL × RT7)) := (Jj N).L N x
def jK (N : Nat) : LSpec where
 X := Int × Int × Int × qL
 Y := (Bool × qL) ⊕ (qL)
 p := λ s => rdS 147 0 [(1, .int .i64), (2, .int .i64), (3, .ptr 3 0), (7, .int .i64)] [(3, .cells [.lst 29])] s λ ⟨a0, a1, _, a2, _⟩ ⟨⟨a3, _⟩, _⟩ => (a0, a1, a2, a3)
 st := λ u4 => mkS 147 [(1, (qI u4.1)), (2, (qI u4.2.1)), (3, (AV.ptr 3 0)), (7, (qI u4.2.2.1))] [(3, [(AV.list 29 u4.2.2.2 none)])] (Jc 4).1.toks 0
 out := λ y => match y with
  | .inl y => (.ret, mkS 147 [(3, (AV.ptr 3 0)), (6, (AV.v (.bool y.1)))] [(3, [(AV.list 29 y.2 none)])] (Jc 4).2.toks 0)
  | .inr y => (.exit 0, mkS 147 [(3, (AV.ptr 3 0))] [(3, [(AV.list 29 y none)])] (Jc 4).2.toks 0)
 b := λ u4 α kn ke => (match (decide (u4.2.2.1 < (u4.2.2.2.length : Int))) with | true => (if 0 <= u4.2.2.1 then (match u4.2.2.2[u4.2.2.1.toNat]? with | some c33 => (match zkY c33 with | some e34 => (match (decide (e34.1 < 1)) with | true => (ke (.inl (false, u4.2.2.2))) | false => (match (decide (e34.1 > 6)) with | true => (ke (.inl (false, u4.2.2.2))) | false => (match (decide (e34.2.1 < 0)) with | true => (ke (.inl (false, u4.2.2.2))) | false => (match (decide (e34.2.1 > 18014398509481984)) with | true => (ke (.inl (false, u4.2.2.2))) | false => (match zfd N ([(zB (zx e34))]) with | some y35 => (match (!y35) with | true => (ke (.inl (false, u4.2.2.2))) | false => (match zoa N (u4.1, u4.2.1, u4.2.2.1, u4.2.2.2, e34) with | some y36 => (match y36 with | .inl z37 => (ke (.inl (z37.2.2.1, z37.2.2.2.2.1))) | .inr z38 => (match (z38.2.2.2.2.1 != 5) with | true => (match (z38.2.2.2.2.2.2.2.1 != 0) with | true => (ke (.inl (false, z38.2.2.2.1))) | false => (match (z38.2.2.2.2.1 == 5) with | true => (match (decide (z38.2.2.2.2.2.2.2.1 < 0)) with | true => (ke (.inl (false, z38.2.2.2.1))) | false => (match (decide (z38.2.2.2.2.2.2.2.1 >= z38.2.1)) with | true => (ke (.inl (false, z38.2.2.2.1))) | false => (match (z38.2.2.2.2.2.2.2.1 == z38.1) with | true => (ke (.inl (false, z38.2.2.2.1))) | false => (match (z38.2.2.1 == 0) with | true => (match (z38.2.2.2.2.1 != 1) with | true => (ke (.inl (false, z38.2.2.2.1))) | false => (kn (z38.1, z38.2.1, (i64 (z38.2.2.1 + 1)), z38.2.2.2.1))) | false => (if 0 <= (i64 (z38.2.2.1 - 1)) then (match z38.2.2.2.1[(i64 (z38.2.2.1 - 1)).toNat]? with | some c39 => (match zkY c39 with | some e40 => (match (decide (z38.2.2.2.2.2.1 < e40.2.1)) with | true => (ke (.inl (false, z38.2.2.2.1))) | false => (match zkV N (z38.2.2.2.2, e40) with | some y41 => (match (!y41) with | true => (ke (.inl (false, z38.2.2.2.1))) | false => (match zhy N z38.2.2.2.2.1 with | some y42 => (match y42 with | true => (match zdX N ((zx e40), (zx z38.2.2.2.2)) with | some y43 => (match (!y43) with | true => (ke (.inl (false, z38.2.2.2.1))) | false => (kn (z38.1, z38.2.1, (i64 (z38.2.2.1 + 1)), z38.2.2.2.1))) | none => none) | false => (kn (z38.1, z38.2.1, (i64 (z38.2.2.1 + 1)), z38.2.2.2.1))) | none => none)) | none => none)) | none => none) | none => none) else none))))) | false => (match (z38.2.2.1 == 0) with | true => (match (z38.2.2.2.2.1 != 1) with | true => (ke (.inl (false, z38.2.2.2.1))) | false => (kn (z38.1, z38.2.1, (i64 (z38.2.2.1 + 1)), z38.2.2.2.1))) | false => (if 0 <= (i64 (z38.2.2.1 - 1)) then (match z38.2.2.2.1[(i64 (z38.2.2.1 - 1)).toNat]? with | some c44 => (match zkY c44 with | some e45 => (match (decide (z38.2.2.2.2.2.1 < e45.2.1)) with | true => (ke (.inl (false, z38.2.2.2.1))) | false => (match zkV N (z38.2.2.2.2, e45) with | some y46 => (match (!y46) with | true => (ke (.inl (false, z38.2.2.2.1))) | false => (match zhy N z38.2.2.2.2.1 with | some y47 => (match y47 with | true => (match zdX N ((zx e45), (zx z38.2.2.2.2)) with | some y48 => (match (!y48) with | true => (ke (.inl (false, z38.2.2.2.1))) | false => (kn (z38.1, z38.2.1, (i64 (z38.2.2.1 + 1)), z38.2.2.2.1))) | none => none) | false => (kn (z38.1, z38.2.1, (i64 (z38.2.2.1 + 1)), z38.2.2.2.1))) | none => none)) | none => none)) | none => none) | none => none) else none)))) | false => (match (z38.2.2.2.2.1 == 5) with | true => (match (decide (z38.2.2.2.2.2.2.2.1 < 0)) with | true => (ke (.inl (false, z38.2.2.2.1))) | false => (match (decide (z38.2.2.2.2.2.2.2.1 >= z38.2.1)) with | true => (ke (.inl (false, z38.2.2.2.1))) | false => (match (z38.2.2.2.2.2.2.2.1 == z38.1) with | true => (ke (.inl (false, z38.2.2.2.1))) | false => (match (z38.2.2.1 == 0) with | true => (match (z38.2.2.2.2.1 != 1) with | true => (ke (.inl (false, z38.2.2.2.1))) | false => (kn (z38.1, z38.2.1, (i64 (z38.2.2.1 + 1)), z38.2.2.2.1))) | false => (if 0 <= (i64 (z38.2.2.1 - 1)) then (match z38.2.2.2.1[(i64 (z38.2.2.1 - 1)).toNat]? with | some c49 => (match zkY c49 with | some e50 => (match (decide (z38.2.2.2.2.2.1 < e50.2.1)) with | true => (ke (.inl (false, z38.2.2.2.1))) | false => (match zkV N (z38.2.2.2.2, e50) with | some y51 => (match (!y51) with | true => (ke (.inl (false, z38.2.2.2.1))) | false => (match zhy N z38.2.2.2.2.1 with | some y52 => (match y52 with | true => (match zdX N ((zx e50), (zx z38.2.2.2.2)) with | some y53 => (match (!y53) with | true => (ke (.inl (false, z38.2.2.2.1))) | false => (kn (z38.1, z38.2.1, (i64 (z38.2.2.1 + 1)), z38.2.2.2.1))) | none => none) | false => (kn (z38.1, z38.2.1, (i64 (z38.2.2.1 + 1)), z38.2.2.2.1))) | none => none)) | none => none)) | none => none) | none => none) else none))))) | false => (match (z38.2.2.1 == 0) with | true => (match (z38.2.2.2.2.1 != 1) with | true => (ke (.inl (false, z38.2.2.2.1))) | false => (kn (z38.1, z38.2.1, (i64 (z38.2.2.1 + 1)), z38.2.2.2.1))) | false => (if 0 <= (i64 (z38.2.2.1 - 1)) then (match z38.2.2.2.1[(i64 (z38.2.2.1 - 1)).toNat]? with | some c54 => (match zkY c54 with | some e55 => (match (decide (z38.2.2.2.2.2.1 < e55.2.1)) with | true => (ke (.inl (false, z38.2.2.2.1))) | false => (match zkV N (z38.2.2.2.2, e55) with | some y56 => (match (!y56) with | true => (ke (.inl (false, z38.2.2.2.1))) | false => (match zhy N z38.2.2.2.2.1 with | some y57 => (match y57 with | true => (match zdX N ((zx e55), (zx z38.2.2.2.2)) with | some y58 => (match (!y58) with | true => (ke (.inl (false, z38.2.2.2.1))) | false => (kn (z38.1, z38.2.1, (i64 (z38.2.2.1 + 1)), z38.2.2.2.1))) | none => none) | false => (kn (z38.1, z38.2.1, (i64 (z38.2.2.1 + 1)), z38.2.2.2.1))) | none => none)) | none => none)) | none => none) | none => none) else none))))) | none => none)) | none => none))))) | none => none) | none => none) else none) | false => (ke (.inr u4.2.2.2)))
abbrev zwv (N : Nat) (x : Int × Int × Int × qL) : Option ((Bool × qL) ⊕ (qL)) := (jK N).L N x
def zd4 (N : Nat) : FSpec where
 X := qL × Int × Int
 Y := Bool
 ash := [[some 29], [none], [none]]
 S := ⟨[[none]], [], [], [], []⟩
 pat := λ a b => zl a λ v1 c2 => jA v1 λ c3 => zl c3 λ c4 c5 => jg 29 c4 λ a0 => zV c5 <| zl c2 λ v6 c7 => Jo .i64 v6 λ a1 => zl c7 λ v8 c9 => Jo .i64 v8 λ a2 => zV c9 <| zV b <| some (a0, a1, a2)
 args := λ x => [(AV.agg [(AV.list 29 x.1 none)]), (AV.v (.int .i64 x.2.1)), (AV.v (.int .i64 x.2.2))]
 ret := λ y => ⟨(AV.v (.bool y)), [], none, [], [], [], none⟩
 t := λ x α k => (match zwv N (x.2.1, x.2.2, 0, x.1) with | some y59 => (match y59 with | .inl z60 => (k z60.1) | .inr z61 => (match (decide ((z61.length : Int) >= 1)) with | true => (k (decide ((z61.length : Int) <= 100))) | false => (k false))) | none => none)
abbrev zxY (N : Nat) (x : qL × Int × Int) : Option (Bool) := (zd4 N).d x
def zbN (N : Nat) : List (Nat × LSpec) := [(4, jK N), (16, Jj N)]
def zfh : Code := Tryd.f78.body.getD .skip
theorem zoc (N : Nat) : Par (Jj N).b := by
 intro x α β kn ke kn' ke' r r' h h1 h2
 revert h
 dsimp only [Jj]
 (repeat' (first | (with_reducible refine ze ?_ ?_) | split)) <;> intro h <;> first | exact h1 _ h | exact h2 _ h | cases h
theorem zkK (N : Nat) : zlz (zn qP) (zxZ N) Jc N (zbN N) 16 zfh (Jj N) := λ x α kn ke => by kernel_rfl
theorem zeu (N : Nat) : ZB qP Jc N (zbN N) 16 (zb 16 zfh) :=
 j5 (zc qP) (zh _) zk Jc N (zbN N) 16 zfh (l := []) (by kernel_rfl) an (Jj N) rfl (λ s x hc h => by dsimp only [Jj] at h; exact zG hc h (λ _ _ => rfl) rfl rfl rfl) (zkK N) (zoc N)
theorem zs0 (N : Nat) : Par (jK N).b := by
 intro x α β kn ke kn' ke' r r' h h1 h2
 revert h
 dsimp only [jK]
 (repeat' (first | (with_reducible refine ze ?_ ?_) | split)) <;> intro h <;> first | exact h1 _ h | exact h2 _ h | cases h
theorem zn9 (N : Nat) : Z3 (zn qP) (zxZ N) Jc N (zbN N) 4 zfh (jK N) := λ x α kn ke => by kernel_rfl
theorem zob (N : Nat) : ZB qP Jc N (zbN N) 4 (zb 4 zfh) :=
 zD (zc qP) (zh _) zk Jc N (zbN N) 4 zfh (l := [(16, zb 16 zfh)]) (by kernel_rfl) (by kernel_rfl) (al (zeu N) an) (jK N) rfl (λ s x hc h => by dsimp only [jK] at h; exact zG hc h (λ _ _ => rfl) rfl rfl rfl) (λ _ => rfl) (zn9 N) (zs0 N)
theorem zs1 (N : Nat) : Zd (zd4 N).t := by
 intro x α β k k' r r' h h1
 revert h
 dsimp only [zd4]
 (repeat' (first | (with_reducible refine ze ?_ ?_) | split)) <;> intro h <;> first | exact h1 _ h | cases h
theorem zs2 (N : Nat) : Zg (zn qP) (zxZ N) Jc (lam N (zbN N)) Tryd.f78 (zd4 N) := λ x => by kernel_rfl
theorem zx0 (N : Nat) (a : List AV) (b : qL) (x : (zd4 N).X) (h : (zd4 N).pat a b = some x) : a = (zd4 N).args x /\ b = (zd4 N).bs x := by
 obtain ⟨v1, c2, rfl, g0⟩ := zd (show zl _ _ = some x from h)
 obtain ⟨c3, rfl, g1⟩ := zW g0; clear g0
 obtain ⟨c4, c5, rfl, g2⟩ := zd g1; clear g1
 obtain ⟨a0, rfl, g3⟩ := zr g2; clear g2
 obtain ⟨rfl, g4⟩ := zi g3; clear g3
 obtain ⟨v6, c7, rfl, g5⟩ := zd g4; clear g4
 obtain ⟨a1, rfl, g6⟩ := zJ g5; clear g5
 obtain ⟨v8, c9, rfl, g7⟩ := zd g6; clear g6
 obtain ⟨a2, rfl, g8⟩ := zJ g7; clear g7
 obtain ⟨rfl, g9⟩ := zi g8; clear g8
 obtain ⟨rfl, g10⟩ := zi g9; clear g9
 clear h
 cases g10
 exact ⟨rfl, rfl⟩
def zDA (N : Nat) : Ent qP := zA (zc qP) (zh _) zk 78 Tryd.f78 Tryd.func78 rfl Jc (lam N (zbN N)) (zm (l := [(4, zb 4 zfh), (16, zb 16 zfh)]) (al (zob N) (al (zeu N) an)) (by kernel_rfl)) (zd4 N) (λ _ => ⟨rfl, rfl⟩) (zs2 N) (zx0 N) (zs1 N)
def zbF : Nat -> Keep × Keep := anL [(4, qK [1, 3] [] [1], qK [1, 2] [] [1])]
def zAk (N : Nat) : GamK := gam (P := qP) [zDA N]
def jG (N : Nat) : LSpec where
 X := Int × qL
 Y := (Bool × qL) ⊕ (qL)
 p := λ s => rdS 26 0 [(1, .ptr 1 0), (3, .int .i64)] [(1, .cells [.lst 1])] s λ ⟨_, a0, _⟩ ⟨⟨a1, _⟩, _⟩ => (a0, a1)
 st := λ u4 => mkS 26 [(1, (AV.ptr 1 0)), (3, (qI u4.1))] [(1, [(AV.list 1 u4.2 none)])] (zbF 4).1.toks 0
 out := λ y => match y with
  | .inl y => (.ret, mkS 26 [(1, (AV.ptr 1 0)), (2, (AV.v (.bool y.1)))] [(1, [(AV.list 1 y.2 none)])] (zbF 4).2.toks 0)
  | .inr y => (.exit 0, mkS 26 [(1, (AV.ptr 1 0))] [(1, [(AV.list 1 y none)])] (zbF 4).2.toks 0)
 b := λ u4 α kn ke => (match (decide (u4.1 < (u4.2.length : Int))) with | true => (if 0 <= u4.1 then (match u4.2[u4.1.toNat]? with | some c4 => (match zdO c4 with | some e5 => (match zxY N (e5.1, u4.1, (u4.2.length : Int)) with | some y6 => (match (!y6) with | true => (ke (.inl (false, u4.2))) | false => (kn ((i64 (u4.1 + 1)), u4.2))) | none => none) | none => none) | none => none) else none) | false => (ke (.inr u4.2)))
abbrev zwa (N : Nat) (x : Int × qL) : Option ((Bool × qL) ⊕ (qL)) := (jG N).L N x
def zd1 (N : Nat) : FSpec where
 X := qL
 Y := Bool
 ash := [[some 1]]
 S := ⟨[[none]], [], [], [], []⟩
 pat := λ a b => zl a λ v1 c2 => jA v1 λ c3 => zl c3 λ c4 c5 => jg 1 c4 λ a0 => zV c5 <| zV c2 <| zV b <| some a0
 args := λ x => [(AV.agg [(AV.list 1 x none)])]
 ret := λ y => ⟨(AV.v (.bool y)), [], none, [], [], [], none⟩
 t := λ x α k => (match zwa N (0, x) with | some y7 => (match y7 with | .inl z8 => (k z8.1) | .inr z9 => (k (decide ((z9.length : Int) <= 500)))) | none => none)
abbrev zr1 (N : Nat) (x : qL) : Option (Bool) := (zd1 N).d x
def zgk (N : Nat) : List (Nat × LSpec) := [(4, jG N)]
def zr0 : Code := Tryd.f55.body.getD .skip
theorem zr2 (N : Nat) : Par (jG N).b := by
 intro x α β kn ke kn' ke' r r' h h1 h2
 revert h
 dsimp only [jG]
 (repeat' (first | (with_reducible refine ze ?_ ?_) | split)) <;> intro h <;> first | exact h1 _ h | exact h2 _ h | cases h
theorem znv (N : Nat) : Z3 (zn qP) (zAk N) zbF N (zgk N) 4 zr0 (jG N) := λ x α kn ke => by kernel_rfl
theorem znw (N : Nat) : ZB qP zbF N (zgk N) 4 (zb 4 zr0) :=
 zD (zc qP) (zh _) zk zbF N (zgk N) 4 zr0 (l := []) (by kernel_rfl) (by kernel_rfl) an (jG N) rfl (λ s x hc h => by dsimp only [jG] at h; exact zG hc h (λ _ _ => rfl) rfl rfl rfl) (λ _ => rfl) (znv N) (zr2 N)
theorem zr3 (N : Nat) : Zd (zd1 N).t := by
 intro x α β k k' r r' h h1
 revert h
 dsimp only [zd1]
 (repeat' (first | (with_reducible refine ze ?_ ?_) | split)) <;> intro h <;> first | exact h1 _ h | cases h
theorem zr4 (N : Nat) : Zg (zn qP) (zAk N) zbF (lam N (zgk N)) Tryd.f55 (zd1 N) := λ x => by kernel_rfl
theorem zxM (N : Nat) (a : List AV) (b : qL) (x : (zd1 N).X) (h : (zd1 N).pat a b = some x) : a = (zd1 N).args x /\ b = (zd1 N).bs x := by
 obtain ⟨v1, c2, rfl, g0⟩ := zd (show zl _ _ = some x from h)
 obtain ⟨c3, rfl, g1⟩ := zW g0; clear g0
 obtain ⟨c4, c5, rfl, g2⟩ := zd g1; clear g1
 obtain ⟨a0, rfl, g3⟩ := zr g2; clear g2
 obtain ⟨rfl, g4⟩ := zi g3; clear g3
 obtain ⟨rfl, g5⟩ := zi g4; clear g4
 obtain ⟨rfl, g6⟩ := zi g5; clear g5
 clear h
 cases g6
 exact ⟨rfl, rfl⟩
def zAj (N : Nat) : Ent qP := zA (zc qP) (zh _) zk 55 Tryd.f55 Tryd.func55 rfl zbF (lam N (zgk N)) (zm (l := [(4, zb 4 zr0)]) (al (znw N) an) (by kernel_rfl)) (zd1 N) (λ _ => ⟨rfl, rfl⟩) (zr4 N) (zxM N) (zr3 N)
def zbA : Nat -> Keep × Keep := anL [(4, ⟨[3, 5], [], [3], [(0, 25)], [], [], [], [], false, none, []⟩, qK [4] [] [])]
def zzJ (N : Nat) : GamK := gam (P := qP) []
def Z4 (N : Nat) : LSpec where
 X := qL × Int × RT1
 Y := (Int) ⊕ (Unit)
 p := λ s => rdS 20 0 [(0, .lst 25), (3, .ptr 3 0), (5, .int .i64)] [(3, .row RK1)] s λ ⟨a0, _, a1, _⟩ ⟨a2, _⟩ => (a0, a1, a2)
 st := λ u4 => mkS 20 [(0, (AV.list 25 u4.1 none)), (3, (AV.ptr 3 0)), (5, (qI u4.2.1))] [(3, (zy u4.2.2))] (zbA 4).1.toks 0
 out := λ y => match y with
  | .inl y => (.ret, mkS 20 [(4, (qI y))] [] (zbA 4).2.toks 0)
  | .inr y => (.exit 0, mkS 20 [] [] (zbA 4).2.toks 0)
 b := λ u4 α kn ke => (match (decide (u4.2.1 < (u4.1.length : Int))) with | true => (if 0 <= u4.2.1 then (match u4.1[u4.2.1.toNat]? with | some c1 => (match Jy (c1.drop 0) with | some e2 => (match (((e2.1 == u4.2.2.1) && ((e2.2.1 == u4.2.2.2.1) && ((e2.2.2.1 == u4.2.2.2.2.1) && ((e2.2.2.2.1 == u4.2.2.2.2.2.1) && true)))) && ((e2.2.2.2.2.1 == u4.2.2.2.2.2.2.1) && ((e2.2.2.2.2.2.1 == u4.2.2.2.2.2.2.2.1) && ((e2.2.2.2.2.2.2.1 == u4.2.2.2.2.2.2.2.2.1) && ((e2.2.2.2.2.2.2.2.1 == u4.2.2.2.2.2.2.2.2.2.1) && ((e2.2.2.2.2.2.2.2.2.1 == u4.2.2.2.2.2.2.2.2.2.2.1) && true)))))) with | true => (ke (.inl u4.2.1)) | false => (kn (u4.1, (i64 (u4.2.1 + 1)), u4.2.2))) | none => none) | none => none) else none) | false => (ke (.inr ())))
abbrev zvD (N : Nat) (x : qL × Int × RT1) : Option ((Int) ⊕ (Unit)) := (Z4 N).L N x
def zjS (N : Nat) : FSpec where
 X := qL × RT1
 Y := Int
 ash := [[some 25], [none, none, none, none, none, none, none, none, none]]
 S := ⟨[[none]], [], [], [], []⟩
 pat := λ a b => rdA [.lst 25, .agg RK1] [] a b λ ⟨a0, a1, _⟩ _ => (a0, a1)
 args := λ x => [(AV.list 25 x.1 none), (AV.agg (zy x.2))]
 ret := λ y => ⟨(AV.v (.int .i64 y)), [], none, [], [], [], none⟩
 t := λ x α k => (match zvD N (x.1, 0, x.2) with | some y3 => (match y3 with | .inl z4 => (k z4) | .inr z5 => (k (-1))) | none => none)
abbrev zjR (N : Nat) (x : qL × RT1) : Option (Int) := (zjS N).d x
def zf7 (N : Nat) : List (Nat × LSpec) := [(4, Z4 N)]
def zqD : Code := Tryd.f18.body.getD .skip
theorem zqE (N : Nat) : Par (Z4 N).b := by
 intro x α β kn ke kn' ke' r r' h h1 h2
 revert h
 dsimp only [Z4]
 (repeat' (first | (with_reducible refine ze ?_ ?_) | split)) <;> intro h <;> first | exact h1 _ h | exact h2 _ h | cases h
theorem zl9 (N : Nat) : Z3 (zn qP) (zzJ N) zbA N (zf7 N) 4 zqD (Z4 N) := λ x α kn ke => by kernel_rfl
theorem zma (N : Nat) : ZB qP zbA N (zf7 N) 4 (zb 4 zqD) :=
 zD (zc qP) (zh _) zk zbA N (zf7 N) 4 zqD (l := []) (by kernel_rfl) (by kernel_rfl) an (Z4 N) rfl (λ s x hc h => by dsimp only [Z4] at h; exact zG hc h (λ _ _ => rfl) rfl rfl rfl) (λ _ => rfl) (zl9 N) (zqE N)
theorem zqF (N : Nat) : Zd (zjS N).t := by
 intro x α β k k' r r' h h1
 revert h
 dsimp only [zjS]
 (repeat' (first | (with_reducible refine ze ?_ ?_) | split)) <;> intro h <;> first | exact h1 _ h | cases h
theorem zqG (N : Nat) : Zg (zn qP) (zzJ N) zbA (lam N (zf7 N)) Tryd.f18 (zjS N) := λ x => by kernel_rfl
def zzI (N : Nat) : Ent qP := zA (zc qP) (zh _) zk 18 Tryd.f18 Tryd.func18 rfl zbA (lam N (zf7 N)) (zm (l := [(4, zb 4 zqD)]) (al (zma N) an) (by kernel_rfl)) (zjS N) (λ _ => ⟨rfl, rfl⟩) (zqG N) (λ _ _ _ h => zw h (λ _ _ => rfl) (λ _ _ => rfl)) (zqF N)
def zvB : Nat -> Keep × Keep := anL []
def zCy (N : Nat) : GamK := gam (P := qP) []
def zdT (N : Nat) : FSpec where
 X := qL
 Y := RT7
 ash := [[some 29]]
 S := ⟨[[none, none, none, none, none, none, none, none, none, none, none, none, none, some 9, none, none, none, none, none, none, none, none, none, none, none, none, none, none, none]], [], [], [], []⟩
 pat := λ a b => zl a λ v1 c2 => jA v1 λ c3 => zl c3 λ c4 c5 => jg 29 c4 λ a0 => zV c5 <| zV c2 <| zV b <| some a0
 args := λ x => [(AV.agg [(AV.list 29 x none)])]
 ret := λ y => ⟨(AV.agg (zQ y)), [], none, [], [], [], none⟩
 t := λ x α k => (if 0 <= (i64 ((x.length : Int) - 1)) then (match x[(i64 ((x.length : Int) - 1)).toNat]? with | some c1 => (match zkY c1 with | some e2 => (k e2) | none => none) | none => none) else none)
abbrev zcH (N : Nat) (x : qL) : Option (RT7) := (zdT N).d x
theorem zqy (N : Nat) : Zd (zdT N).t := by
 intro x α β k k' r r' h h1
 revert h
 dsimp only [zdT]
 (repeat' (first | (with_reducible refine ze ?_ ?_) | split)) <;> intro h <;> first | exact h1 _ h | cases h
theorem zqz (N : Nat) : Zg (zn qP) (zCy N) zvB (lam N []) Tryd.f16 (zdT N) := λ x => by kernel_rfl
theorem zxf (N : Nat) (a : List AV) (b : qL) (x : (zdT N).X) (h : (zdT N).pat a b = some x) : a = (zdT N).args x /\ b = (zdT N).bs x := by
 obtain ⟨v1, c2, rfl, g0⟩ := zd (show zl _ _ = some x from h)
 obtain ⟨c3, rfl, g1⟩ := zW g0; clear g0
 obtain ⟨c4, c5, rfl, g2⟩ := zd g1; clear g1
 obtain ⟨a0, rfl, g3⟩ := zr g2; clear g2
 obtain ⟨rfl, g4⟩ := zi g3; clear g3
 obtain ⟨rfl, g5⟩ := zi g4; clear g4
 obtain ⟨rfl, g6⟩ := zi g5; clear g5
 clear h
 cases g6
 exact ⟨rfl, rfl⟩
def zl8 (N : Nat) : Ent qP := zA (zc qP) (zh _) zk 16 Tryd.f16 Tryd.func16 rfl zvB (lam N []) (zm (l := []) an (by kernel_rfl)) (zdT N) (λ _ => ⟨rfl, rfl⟩) (zqz N) (zxf N) (zqy N)
@[reducible] def zfp (e : RT7) : RT1 := (e.2.2.2.2.1, e.2.2.2.2.2.1, e.2.2.2.2.2.2.1, e.2.2.2.2.2.2.2.1, e.2.2.2.2.2.2.2.2.1, e.2.2.2.2.2.2.2.2.2.1, e.2.2.2.2.2.2.2.2.2.2.1, e.2.2.2.2.2.2.2.2.2.2.2.1, e.2.2.2.2.2.2.2.2.2.2.2.2.1, ())
def Je : Nat -> Keep × Keep := anL [(4, ⟨[5], [], [], [(0, 9), (1, 9)], [], [], [], [], false, none, []⟩, qK [4] [] []), (12, ⟨[5, 6], [], [], [(0, 9), (1, 9)], [], [], [], [], false, none, []⟩, ⟨[4, 5], [], [], [(0, 9), (1, 9)], [], [], [], [], false, none, []⟩)]
def zx6 (N : Nat) : GamK := gam (P := qP) []
def Zz (N : Nat) : LSpec where
 X := qL × qL × Int × Int
 Y := (qL × qL × Bool × Int) ⊕ (qL × qL × Int)
 p := λ s => rdS 28 0 [(0, .lst 9), (1, .lst 9), (5, .int .i64), (6, .int .i64)] [] s λ ⟨a0, a1, a2, a3, _⟩ _ => (a0, a1, a2, a3)
 st := λ u12 => mkS 28 [(0, (AV.list 9 u12.1 none)), (1, (AV.list 9 u12.2.1 none)), (5, (qI u12.2.2.1)), (6, (qI u12.2.2.2))] [] (Je 12).1.toks 0
 out := λ y => match y with
  | .inl y => (.ret, mkS 28 [(0, (AV.list 9 y.1 none)), (1, (AV.list 9 y.2.1 none)), (4, (AV.v (.bool y.2.2.1))), (5, (qI y.2.2.2))] [] (Je 12).2.toks 0)
  | .inr y => (.exit 2, mkS 28 [(0, (AV.list 9 y.1 none)), (1, (AV.list 9 y.2.1 none)), (5, (qI y.2.2))] [] (Je 12).2.toks 0)
 b := λ u12 α kn ke => (match (decide (u12.2.2.2 < (u12.2.1.length : Int))) with | true => (if 0 <= u12.2.2.1 then (match u12.1[u12.2.2.1.toNat]? with | some c1 => (match Jy c1 with | some e2 => (if 0 <= u12.2.2.2 then (match u12.2.1[u12.2.2.2.toNat]? with | some c3 => (match Jy c3 with | some e4 => (match (((e2.1 == e4.1) && ((e2.2.1 == e4.2.1) && ((e2.2.2.1 == e4.2.2.1) && ((e2.2.2.2.1 == e4.2.2.2.1) && true)))) && ((e2.2.2.2.2.1 == e4.2.2.2.2.1) && ((e2.2.2.2.2.2.1 == e4.2.2.2.2.2.1) && ((e2.2.2.2.2.2.2.1 == e4.2.2.2.2.2.2.1) && ((e2.2.2.2.2.2.2.2.1 == e4.2.2.2.2.2.2.2.1) && ((e2.2.2.2.2.2.2.2.2.1 == e4.2.2.2.2.2.2.2.2.1) && true)))))) with | true => (ke (.inl (u12.1, u12.2.1, true, u12.2.2.1))) | false => (kn (u12.1, u12.2.1, u12.2.2.1, (i64 (u12.2.2.2 + 1))))) | none => none) | none => none) else none) | none => none) | none => none) else none) | false => (ke (.inr (u12.1, u12.2.1, u12.2.2.1))))
abbrev zhA (N : Nat) (x : qL × qL × Int × Int) : Option ((qL × qL × Bool × Int) ⊕ (qL × qL × Int)) := (Zz N).L N x
def Z8 (N : Nat) : LSpec where
 X := qL × qL × Int
 Y := (Bool) ⊕ (Unit)
 p := λ s => rdS 28 0 [(0, .lst 9), (1, .lst 9), (5, .int .i64)] [] s λ ⟨a0, a1, a2, _⟩ _ => (a0, a1, a2)
 st := λ u4 => mkS 28 [(0, (AV.list 9 u4.1 none)), (1, (AV.list 9 u4.2.1 none)), (5, (qI u4.2.2))] [] (Je 4).1.toks 0
 out := λ y => match y with
  | .inl y => (.ret, mkS 28 [(4, (AV.v (.bool y)))] [] (Je 4).2.toks 0)
  | .inr y => (.exit 0, mkS 28 [] [] (Je 4).2.toks 0)
 b := λ u4 α kn ke => (match (decide (u4.2.2 < (u4.1.length : Int))) with | true => (match zhA N (u4.1, u4.2.1, u4.2.2, 0) with | some y5 => (match y5 with | .inl z6 => (ke (.inl z6.2.2.1)) | .inr z7 => (kn (z7.1, z7.2.1, (i64 (z7.2.2 + 1))))) | none => none) | false => (ke (.inr ())))
abbrev zwy (N : Nat) (x : qL × qL × Int) : Option ((Bool) ⊕ (Unit)) := (Z8 N).L N x
def zkP (N : Nat) : FSpec where
 X := qL × qL
 Y := Bool
 ash := [[some 9], [some 9]]
 S := ⟨[[none]], [], [], [], []⟩
 pat := λ a b => rdA [.lst 9, .lst 9] [] a b λ ⟨a0, a1, _⟩ _ => (a0, a1)
 args := λ x => [(AV.list 9 x.1 none), (AV.list 9 x.2 none)]
 ret := λ y => ⟨(AV.v (.bool y)), [], none, [], [], [], none⟩
 t := λ x α k => (match zwy N (x.1, x.2, 0) with | some y8 => (match y8 with | .inl z9 => (k z9) | .inr z10 => (k false)) | none => none)
abbrev ztj (N : Nat) (x : qL × qL) : Option (Bool) := (zkP N).d x
def zbQ (N : Nat) : List (Nat × LSpec) := [(4, Z8 N), (12, Zz N)]
def zfk : Code := Tryd.f83.body.getD .skip
theorem zot (N : Nat) : Par (Zz N).b := by
 intro x α β kn ke kn' ke' r r' h h1 h2
 revert h
 dsimp only [Zz]
 (repeat' (first | (with_reducible refine ze ?_ ?_) | split)) <;> intro h <;> first | exact h1 _ h | exact h2 _ h | cases h
theorem zkO (N : Nat) : Z3 (zn qP) (zx6 N) Je N (zbQ N) 12 zfk (Zz N) := λ x α kn ke => by kernel_rfl
theorem zex (N : Nat) : ZB qP Je N (zbQ N) 12 (zb 12 zfk) :=
 zD (zc qP) (zh _) zk Je N (zbQ N) 12 zfk (l := []) (by kernel_rfl) (by kernel_rfl) an (Zz N) rfl (λ s x hc h => by dsimp only [Zz] at h; exact zG hc h (λ _ _ => rfl) rfl rfl rfl) (λ _ => rfl) (zkO N) (zot N)
theorem ztk (N : Nat) : Par (Z8 N).b := by
 intro x α β kn ke kn' ke' r r' h h1 h2
 revert h
 dsimp only [Z8]
 (repeat' (first | (with_reducible refine ze ?_ ?_) | split)) <;> intro h <;> first | exact h1 _ h | exact h2 _ h | cases h
theorem zor (N : Nat) : Z3 (zn qP) (zx6 N) Je N (zbQ N) 4 zfk (Z8 N) := λ x α kn ke => by kernel_rfl
theorem zos (N : Nat) : ZB qP Je N (zbQ N) 4 (zb 4 zfk) :=
 zD (zc qP) (zh _) zk Je N (zbQ N) 4 zfk (l := [(12, zb 12 zfk)]) (by kernel_rfl) (by kernel_rfl) (al (zex N) an) (Z8 N) rfl (λ s x hc h => by dsimp only [Z8] at h; exact zG hc h (λ _ _ => rfl) rfl rfl rfl) (λ _ => rfl) (zor N) (ztk N)
theorem ztl (N : Nat) : Zd (zkP N).t := by
 intro x α β k k' r r' h h1
 revert h
 dsimp only [zkP]
 (repeat' (first | (with_reducible refine ze ?_ ?_) | split)) <;> intro h <;> first | exact h1 _ h | cases h
theorem ztm (N : Nat) : Zg (zn qP) (zx6 N) Je (lam N (zbQ N)) Tryd.f83 (zkP N) := λ x => by kernel_rfl
def zDH (N : Nat) : Ent qP := zA (zc qP) (zh _) zk 83 Tryd.f83 Tryd.func83 rfl Je (lam N (zbQ N)) (zm (l := [(4, zb 4 zfk), (12, zb 12 zfk)]) (al (zos N) (al (zex N) an)) (by kernel_rfl)) (zkP N) (λ _ => ⟨rfl, rfl⟩) (ztm N) (λ _ _ _ h => zw h (λ _ _ => rfl) (λ _ _ => rfl)) (ztl N)
def JX : Nat -> Keep × Keep := anL [(4, ⟨[0, 1, 5], [], [0], [], [], [], [], [0], false, none, []⟩, ⟨[4], [], [0], [], [], [], [], [0], false, none, []⟩)]
def zwg (N : Nat) : GamK := gam (P := qP) []
def Zx (N : Nat) : LSpec where
 X := Nat × Int × Int × qA
 Y := (Bool × qA) ⊕ (qA)
 p := λ s => rdS 18 1 [(0, .vs0 0 1), (1, .int .i64), (5, .int .i64)] [(0, .tt)] s λ ⟨a0, a1, a2, _⟩ ⟨a3, _⟩ => (a0, a1, a2, a3)
 st := λ u4 => mkS 18 [(0, (AV.vs 0 0 u4.1 1)), (1, (qI u4.2.1)), (5, (qI u4.2.2.1))] [(0, u4.2.2.2)] (JX 4).1.toks 1
 out := λ y => match y with
  | .inl y => (.ret, mkS 18 [(4, (AV.v (.bool y.1)))] [(0, y.2)] (JX 4).2.toks 1)
  | .inr y => (.exit 0, mkS 18 [] [(0, y)] (JX 4).2.toks 1)
 b := λ u4 α kn ke => (match (decide (u4.2.2.1 < ((u4.1 : Nat) : Int))) with | true => (if 0 <= u4.2.2.1 /\ u4.2.2.1 < (u4.1 : Int) then (match u4.2.2.2[((0 + u4.2.2.1.toNat) * 1)]? with | some x4 => (match x4 with | .v (.int q6 n5) => (if q6 = .i64 then (match (n5 == u4.2.1) with | true => (ke (.inl (true, (u4.2.2.2.map dat0)))) | false => (kn (u4.1, u4.2.1, (i64 (u4.2.2.1 + 1)), (u4.2.2.2.map dat0)))) else none) | _ => none) | none => none) else none) | false => (ke (.inr (u4.2.2.2.map dat0))))
abbrev znL (N : Nat) (x : Nat × Int × Int × qA) : Option ((Bool × qA) ⊕ (qA)) := (Zx N).L N x
def zes (N : Nat) : FSpec where
 X := Nat × Int × qA
 Y := Bool × qA
 ash := [[none], [none]]
 bsh := [[]]
 S := ⟨[[none]], [[]], [], [], [0]⟩
 pat := λ a b => rdA [.vs0 0 1, .int .i64] [.tt] a b λ ⟨a0, a1, _⟩ ⟨a2, _⟩ => (a0, a1, a2)
 args := λ x => [(AV.vs 0 0 x.1 1), (AV.v (.int .i64 x.2.1))]
 bs := λ x => [x.2.2]
 ret := λ y => ⟨(AV.v (.bool y.1)), [y.2], none, [], [], [0], none⟩
 t := λ x α k => (match znL N (x.1, x.2.1, 0, (x.2.2.map dat0)) with | some y7 => (match y7 with | .inl z8 => (k (z8.1, (z8.2.map dat0))) | .inr z9 => (k (false, (z9.map dat0)))) | none => none)
abbrev zgn (N : Nat) (x : Nat × Int × qA) : Option (Bool × qA) := (zes N).d x
def zcU (N : Nat) : List (Nat × LSpec) := [(4, Zx N)]
def ziI : Code := Tryd.f60.body.getD .skip
theorem znM (N : Nat) : Par (Zx N).b := by
 intro x α β kn ke kn' ke' r r' h h1 h2
 revert h
 dsimp only [Zx]
 (repeat' (first | (with_reducible refine ze ?_ ?_) | split)) <;> intro h <;> first | exact h1 _ h | exact h2 _ h | cases h
theorem zkz (N : Nat) : Z3 (zn qP) (zwg N) JX N (zcU N) 4 ziI (Zx N) := λ x α kn ke => by kernel_rfl
theorem zkA (N : Nat) : ZB qP JX N (zcU N) 4 (zb 4 ziI) :=
 zD (zc qP) (zh _) zk JX N (zcU N) 4 ziI (l := []) (by kernel_rfl) (by kernel_rfl) an (Zx N) rfl (λ s x hc h => by dsimp only [Zx] at h; exact zG hc h (λ _ _ => rfl) rfl rfl rfl) (λ _ => rfl) (zkz N) (znM N)
theorem znN (N : Nat) : Zd (zes N).t := by
 intro x α β k k' r r' h h1
 revert h
 dsimp only [zes]
 (repeat' (first | (with_reducible refine ze ?_ ?_) | split)) <;> intro h <;> first | exact h1 _ h | cases h
theorem znO (N : Nat) : Zg (zn qP) (zwg N) JX (lam N (zcU N)) Tryd.f60 (zes N) := λ x => by kernel_rfl
def zwf (N : Nat) : Ent qP := zA (zc qP) (zh _) zk 60 Tryd.f60 Tryd.func60 rfl JX (lam N (zcU N)) (zm (l := [(4, zb 4 ziI)]) (al (zkA N) an) (by kernel_rfl)) (zes N) (λ _ => ⟨rfl, rfl⟩) (znO N) (λ _ _ _ h => zw h (λ _ _ => rfl) (λ _ _ => rfl)) (znN N)
def zbH : Nat -> Keep × Keep := anL [(4, qK [1, 2, 5] [] [2], qK [4] [] [])]
def zAm (N : Nat) : GamK := gam (P := qP) [zl8 N]
def jI (N : Nat) : LSpec where
 X := Int × Int × qL
 Y := (Bool) ⊕ (Unit)
 p := λ s => rdS 22 0 [(1, .int .i64), (2, .ptr 2 0), (5, .int .i64)] [(2, .cells [.lst 1])] s λ ⟨a0, _, a1, _⟩ ⟨⟨a2, _⟩, _⟩ => (a0, a1, a2)
 st := λ u4 => mkS 22 [(1, (qI u4.1)), (2, (AV.ptr 2 0)), (5, (qI u4.2.1))] [(2, [(AV.list 1 u4.2.2 none)])] (zbH 4).1.toks 0
 out := λ y => match y with
  | .inl y => (.ret, mkS 22 [(4, (AV.v (.bool y)))] [] (zbH 4).2.toks 0)
  | .inr y => (.exit 0, mkS 22 [] [] (zbH 4).2.toks 0)
 b := λ u4 α kn ke => (match (decide (u4.2.1 < (u4.2.2.length : Int))) with | true => (if 0 <= u4.2.1 then (match u4.2.2[u4.2.1.toNat]? with | some c1 => (match zdO c1 with | some e2 => (match zcH N e2.1 with | some y3 => (match (decide (y3.2.1 > u4.1)) with | true => (ke (.inl false)) | false => (kn (u4.1, (i64 (u4.2.1 + 1)), u4.2.2))) | none => none) | none => none) | none => none) else none) | false => (ke (.inr ())))
abbrev zwc (N : Nat) (x : Int × Int × qL) : Option ((Bool) ⊕ (Unit)) := (jI N).L N x
def zd2 (N : Nat) : FSpec where
 X := qL × Int
 Y := Bool
 ash := [[some 1], [none]]
 S := ⟨[[none]], [], [], [], []⟩
 pat := λ a b => zl a λ v1 c2 => jA v1 λ c3 => zl c3 λ c4 c5 => jg 1 c4 λ a0 => zV c5 <| zl c2 λ v6 c7 => Jo .i64 v6 λ a1 => zV c7 <| zV b <| some (a0, a1)
 args := λ x => [(AV.agg [(AV.list 1 x.1 none)]), (AV.v (.int .i64 x.2))]
 ret := λ y => ⟨(AV.v (.bool y)), [], none, [], [], [], none⟩
 t := λ x α k => (match zwc N (x.2, 0, x.1) with | some y4 => (match y4 with | .inl z5 => (k z5) | .inr z6 => (k true)) | none => none)
abbrev zr9 (N : Nat) (x : qL × Int) : Option (Bool) := (zd2 N).d x
def zgl (N : Nat) : List (Nat × LSpec) := [(4, jI N)]
def zr8 : Code := Tryd.f57.body.getD .skip
theorem zsa (N : Nat) : Par (jI N).b := by
 intro x α β kn ke kn' ke' r r' h h1 h2
 revert h
 dsimp only [jI]
 (repeat' (first | (with_reducible refine ze ?_ ?_) | split)) <;> intro h <;> first | exact h1 _ h | exact h2 _ h | cases h
theorem znA (N : Nat) : Z3 (zn qP) (zAm N) zbH N (zgl N) 4 zr8 (jI N) := λ x α kn ke => by kernel_rfl
theorem znB (N : Nat) : ZB qP zbH N (zgl N) 4 (zb 4 zr8) :=
 zD (zc qP) (zh _) zk zbH N (zgl N) 4 zr8 (l := []) (by kernel_rfl) (by kernel_rfl) an (jI N) rfl (λ s x hc h => by dsimp only [jI] at h; exact zG hc h (λ _ _ => rfl) rfl rfl rfl) (λ _ => rfl) (znA N) (zsa N)
theorem zsb (N : Nat) : Zd (zd2 N).t := by
 intro x α β k k' r r' h h1
 revert h
 dsimp only [zd2]
 (repeat' (first | (with_reducible refine ze ?_ ?_) | split)) <;> intro h <;> first | exact h1 _ h | cases h
theorem zsc (N : Nat) : Zg (zn qP) (zAm N) zbH (lam N (zgl N)) Tryd.f57 (zd2 N) := λ x => by kernel_rfl
theorem zxP (N : Nat) (a : List AV) (b : qL) (x : (zd2 N).X) (h : (zd2 N).pat a b = some x) : a = (zd2 N).args x /\ b = (zd2 N).bs x := by
 obtain ⟨v1, c2, rfl, g0⟩ := zd (show zl _ _ = some x from h)
 obtain ⟨c3, rfl, g1⟩ := zW g0; clear g0
 obtain ⟨c4, c5, rfl, g2⟩ := zd g1; clear g1
 obtain ⟨a0, rfl, g3⟩ := zr g2; clear g2
 obtain ⟨rfl, g4⟩ := zi g3; clear g3
 obtain ⟨v6, c7, rfl, g5⟩ := zd g4; clear g4
 obtain ⟨a1, rfl, g6⟩ := zJ g5; clear g5
 obtain ⟨rfl, g7⟩ := zi g6; clear g6
 obtain ⟨rfl, g8⟩ := zi g7; clear g7
 clear h
 cases g8
 exact ⟨rfl, rfl⟩
def zAl (N : Nat) : Ent qP := zA (zc qP) (zh _) zk 57 Tryd.f57 Tryd.func57 rfl zbH (lam N (zgl N)) (zm (l := [(4, zb 4 zr8)]) (al (znB N) an) (by kernel_rfl)) (zd2 N) (λ _ => ⟨rfl, rfl⟩) (zsc N) (zxP N) (zsb N)
end
end Go.Proofs.YthdgnfcbehcplaaDoor
end
section
namespace Go.Proofs.YthdgnfcbehcplaaDoor
noncomputable section
open Go.RowKit
set_option maxRecDepth 4000
set_option maxHeartbeats 4000000
def zaC : Nat -> Keep × Keep := anL [(5, ⟨[1, 2, 3, 4], [], [1, 2, 3], [], [((2, 0), 1)], [], [((3, 0), 1)], [], false, some 2012288, []⟩, ⟨[2, 3], [], [2, 3], [], [((2, 0), 1)], [], [((3, 0), 1)], [], false, some 2012288, []⟩)]
def zwe (N : Nat) : GamK := gam (P := qP) []
def ZS (N : Nat) : LSpec where
 X := Int × qL × qL × Nat × qA × Nat × Nat
 Y := (qL × Nat × qA × Nat × Nat)
 p := λ s => rdF 27 0 2012288 [(1, .ptr 1 0), (2, .ptr 2 0), (3, .ptr 3 0), (4, .int .i64)] [(1, .cells [.lst 1]), (2, .cells [.tok 1 6400524288]), (3, .cells [.vs0 2012288 1]), (2012288, .tt)] s λ ⟨_, _, _, a0, _⟩ ⟨⟨a1, _⟩, ⟨a2, _⟩, ⟨a3, _⟩, a4, _⟩ a5 a6 => (a0, a1, a2, a3, a4, a5, a6)
 st := λ u5 => mkF 27 [(1, (AV.ptr 1 0)), (2, (AV.ptr 2 0)), (3, (AV.ptr 3 0)), (4, (qI u5.1))] [(1, [(AV.list 1 u5.2.1 none)]), (2, [(AV.list 1 u5.2.2.1 (some 6400524288))]), (3, [(AV.vs 2012288 0 u5.2.2.2.1 1)]), (2012288, u5.2.2.2.2.1)] (zaC 5).1.toks 0 (some (2012288, u5.2.2.2.2.2.1, u5.2.2.2.2.2.2))
 out := λ y => (.exit 0, mkF 27 [(2, (AV.ptr 2 0)), (3, (AV.ptr 3 0))] [(2, [(AV.list 1 y.1 (some 6400524288))]), (3, [(AV.vs 2012288 0 y.2.1 1)]), (2012288, y.2.2.1)] (zaC 5).2.toks 0 (some (2012288, y.2.2.2.1, y.2.2.2.2)))
 b := λ u5 α kn ke => (match (decide (u5.1 < (u5.2.1.length : Int))) with | true => (if 0 <= u5.1 then (match u5.2.1[u5.1.toNat]? with | some c4 => (match (c4.drop 0)[0]? with | some x5 => (match jZ 29 x5 with | some l6 => (if (([] : qL).length + l6.length) * 288 <= zg then (if (u5.2.2.2.2.2.2 = u5.2.2.2.1 /\ u5.2.2.2.2.2.1 <= u5.2.2.2.2.2.2) /\ u5.2.2.2.1 * 1 <= u5.2.2.2.2.1.length /\ (u5.2.2.2.1 + 1) * 24 <= zg then (kn ((i64 (u5.1 + 1)), u5.2.1, u5.2.2.1, (u5.2.2.2.1 + 1), ((u5.2.2.2.2.1.take (u5.2.2.2.1 * 1) ++ [AV.list 29 (([] : qL) ++ l6) (some (TOB + u5.2.2.2.2.2.2))]).map datF), u5.2.2.2.2.2.1, (u5.2.2.2.2.2.2 + 1))) else none) else none) | none => none) | none => none) | none => none) else none) | false => (ke (u5.2.2.1, u5.2.2.2.1, (u5.2.2.2.2.1.map datF), u5.2.2.2.2.2)))
abbrev znC (N : Nat) (x : Int × qL × qL × Nat × qA × Nat × Nat) : Option ((qL × Nat × qA × Nat × Nat)) := (ZS N).L N x
def zan (N : Nat) : FSpec where
 X := qL
 Y := Nat × qA × Nat × Nat
 ash := [[some 1]]
 S := ⟨[[some 1]], [], [], [], []⟩
 bm := true
 pat := λ a b => zl a λ v1 c2 => jA v1 λ c3 => zl c3 λ c4 c5 => jg 1 c4 λ a0 => zV c5 <| zV c2 <| zV b <| some a0
 args := λ x => [(AV.agg [(AV.list 1 x none)])]
 ret := λ y => ⟨(AV.agg [(AV.vs 0 0 y.1 1)]), [], some y.2.1, [], [], [], some (y.2.2.1, y.2.2.2)⟩
 t := λ x α k => (match znC N (0, x, ([] : qL), 0, ([] : List AV), 0, 0) with | some y7 => (k (y7.2.1, (y7.2.2.1.map datF), y7.2.2.2)) | none => none)
abbrev zgm (N : Nat) (x : qL) : Option (Nat × qA × Nat × Nat) := (zan N).d x
def zcS (N : Nat) : List (Nat × LSpec) := [(5, ZS N)]
def ziE : Code := Tryd.f58.body.getD .skip
theorem znD (N : Nat) : Par (ZS N).b := by
 intro x α β kn ke kn' ke' r r' h h1 h2
 revert h
 dsimp only [ZS]
 (repeat' (first | (with_reducible refine ze ?_ ?_) | split)) <;> intro h <;> first | exact h1 _ h | exact h2 _ h | cases h
theorem zkt (N : Nat) : Z3 (JQ qP [23, 24]) (zwe N) zaC N (zcS N) 5 ziE (ZS N) := λ x α kn ke => by kernel_rfl
theorem zku (N : Nat) : ZB qP zaC N (zcS N) 5 (zb 5 ziE) :=
 zD (zL qP [23, 24]) (zh _) zk zaC N (zcS N) 5 ziE (l := []) (by kernel_rfl) (by kernel_rfl) an (ZS N) rfl (λ s x hc h => by dsimp only [ZS] at h; exact za9 hc h (λ _ _ _ _ => rfl) rfl rfl) (λ _ => rfl) (zkt N) (znD N)
theorem znE (N : Nat) : Zd (zan N).t := by
 intro x α β k k' r r' h h1
 revert h
 dsimp only [zan]
 (repeat' (first | (with_reducible refine ze ?_ ?_) | split)) <;> intro h <;> first | exact h1 _ h | cases h
theorem znF (N : Nat) : Zg (JQ qP [23, 24]) (zwe N) zaC (lam N (zcS N)) Tryd.f58 (zan N) := λ x => by kernel_rfl
theorem zsd (N : Nat) (a : List AV) (b : qL) (x : (zan N).X) (h : (zan N).pat a b = some x) : a = (zan N).args x /\ b = (zan N).bs x := by
 obtain ⟨v1, c2, rfl, g0⟩ := zd (show zl _ _ = some x from h)
 obtain ⟨c3, rfl, g1⟩ := zW g0; clear g0
 obtain ⟨c4, c5, rfl, g2⟩ := zd g1; clear g1
 obtain ⟨a0, rfl, g3⟩ := zr g2; clear g2
 obtain ⟨rfl, g4⟩ := zi g3; clear g3
 obtain ⟨rfl, g5⟩ := zi g4; clear g4
 obtain ⟨rfl, g6⟩ := zi g5; clear g5
 clear h
 cases g6
 exact ⟨rfl, rfl⟩
def zwd (N : Nat) : Ent qP := zA (zL qP [23, 24]) (zh _) zk 58 Tryd.f58 Tryd.func58 rfl zaC (lam N (zcS N)) (zm (l := [(5, zb 5 ziE)]) (al (zku N) an) (by kernel_rfl)) (zan N) (λ _ => ⟨rfl, rfl⟩) (znF N) (zsd N) (znE N)
def Ja : Nat -> Keep × Keep := anF [(2, ⟨[1, 3, 5, 6], [], [3, 5, 6], [], [((6, 0), 1)], [], [], [], true, none, []⟩, ⟨[1, 3, 5, 6, 7], [], [3, 5, 6], [], [((6, 0), 1)], [], [], [], false, none, []⟩), (19, ⟨[1, 3, 5, 6, 8], [], [3, 5, 6, 8], [], [((6, 0), 1)], [], [], [], true, none, []⟩, ⟨[1, 3, 5, 6, 7, 8], [], [3, 5, 6, 8], [], [((6, 0), 1)], [], [], [], false, none, []⟩)] [(100018, ([], [((9, 0), 1)]))]
def zxK (N : Nat) : GamK := gam (P := qP) [zAj N, zAF N, zxN N, zAl N, zl8 N, zqv N, zAH N, zwd N]
def jk (N : Nat) : LSpec where
 X := Int × qL × RT7 × qL × RT7
 Y := (Int × Int × qL × RT7 × qL × RT7) ⊕ (Int × qL × RT7 × qL × RT7)
 p := λ s => rdS 127 0 [(1, .int .i64), (3, .ptr 3 0), (5, .ptr 5 0), (6, .ptr 6 0), (8, .ptr 8 0)] [(3, .cells [.lst 1]), (5, .row RK7), (6, .cells [.tok 1 6401572864]), (8, .row RK7)] s λ ⟨a0, _, _, _, _, _⟩ ⟨⟨a1, _⟩, a2, ⟨a3, _⟩, a4, _⟩ => (a0, a1, a2, a3, a4)
 st := λ u19 => mkS 127 [(1, (qI u19.1)), (3, (AV.ptr 3 0)), (5, (AV.ptr 5 0)), (6, (AV.ptr 6 0)), (8, (AV.ptr 8 0))] [(3, [(AV.list 1 u19.2.1 none)]), (5, (zQ u19.2.2.1)), (6, [(AV.list 1 u19.2.2.2.1 (some 6401572864))]), (8, (zQ u19.2.2.2.2))] (Ja 19).1.toks 0
 out := λ y => match y with
  | .inl y => (.ret, mkS 127 [(1, (qI y.1)), (3, (AV.ptr 3 0)), (5, (AV.ptr 5 0)), (6, (AV.ptr 6 0)), (7, (qI y.2.1)), (8, (AV.ptr 8 0))] [(3, [(AV.list 1 y.2.2.1 none)]), (5, (zQ y.2.2.2.1)), (6, [(AV.list 1 y.2.2.2.2.1 (some 6401572864))]), (8, (zQ y.2.2.2.2.2))] (Ja 19).2.toks 0)
  | .inr y => (.normal, mkS 127 [(1, (qI y.1)), (3, (AV.ptr 3 0)), (5, (AV.ptr 5 0)), (6, (AV.ptr 6 0)), (8, (AV.ptr 8 0))] [(3, [(AV.list 1 y.2.1 none)]), (5, (zQ y.2.2.1)), (6, [(AV.list 1 y.2.2.2.1 (some 6401572864))]), (8, (zQ y.2.2.2.2))] (Ja 19).2.toks 0)
 b := λ u19 α kn ke => (match (u19.2.2.1.1 == 5) with | true => (match (u19.2.2.1.2.2.2.1 == u19.1) with | true => (ke (.inl (u19.1, 10, u19.2.1, u19.2.2.1, ([] : qL), u19.2.2.2.2))) | false => (match (u19.2.2.1.1 == 6) with | true => (match ze0 N u19.2.2.2.2 with | some y21 => (match y21 with | true => (ke (.inl (u19.1, 10, u19.2.1, u19.2.2.1, ([] : qL), u19.2.2.2.2))) | false => (ke (.inr u19))) | none => none) | false => (ke (.inr u19)))) | false => (match (u19.2.2.1.1 == 6) with | true => (match ze0 N u19.2.2.2.2 with | some y22 => (match y22 with | true => (ke (.inl (u19.1, 10, u19.2.1, u19.2.2.1, ([] : qL), u19.2.2.2.2))) | false => (ke (.inr u19))) | none => none) | false => (ke (.inr u19))))
abbrev zfb (N : Nat) (x : Int × qL × RT7 × qL × RT7) : Option ((Int × Int × qL × RT7 × qL × RT7) ⊕ (Int × qL × RT7 × qL × RT7)) := (jk N).L N x
def zam (N : Nat) : LSpec where
 X := Int × qL × RT7 × qL
 Y := (Int × Int × qL × RT7 × qL) ⊕ (Int × qL × RT7 × qL)
 p := λ s => rdS 127 0 [(1, .int .i64), (3, .ptr 3 0), (5, .ptr 5 0), (6, .ptr 6 0)] [(3, .cells [.lst 1]), (5, .row RK7), (6, .cells [.tok 1 6401572864])] s λ ⟨a0, _, _, _, _⟩ ⟨⟨a1, _⟩, a2, ⟨a3, _⟩, _⟩ => (a0, a1, a2, a3)
 st := λ u2 => mkS 127 [(1, (qI u2.1)), (3, (AV.ptr 3 0)), (5, (AV.ptr 5 0)), (6, (AV.ptr 6 0))] [(3, [(AV.list 1 u2.2.1 none)]), (5, (zQ u2.2.2.1)), (6, [(AV.list 1 u2.2.2.2 (some 6401572864))])] (Ja 2).1.toks 0
 out := λ y => match y with
  | .inl y => (.ret, mkS 127 [(1, (qI y.1)), (3, (AV.ptr 3 0)), (5, (AV.ptr 5 0)), (6, (AV.ptr 6 0)), (7, (qI y.2.1))] [(3, [(AV.list 1 y.2.2.1 none)]), (5, (zQ y.2.2.2.1)), (6, [(AV.list 1 y.2.2.2.2 (some 6401572864))])] (Ja 2).2.toks 0)
  | .inr y => (.normal, mkS 127 [(1, (qI y.1)), (3, (AV.ptr 3 0)), (5, (AV.ptr 5 0)), (6, (AV.ptr 6 0))] [(3, [(AV.list 1 y.2.1 none)]), (5, (zQ y.2.2.1)), (6, [(AV.list 1 y.2.2.2 (some 6401572864))])] (Ja 2).2.toks 0)
 b := λ u2 α kn ke => (match zr1 N u2.2.1 with | some y7 => (match (!y7) with | true => (ke (.inl (u2.1, 1, u2.2.1, u2.2.2.1, ([] : qL)))) | false => (match zsU N u2.2.2.1.2.2.1 with | some y8 => (match (!y8) with | true => (ke (.inl (u2.1, 1, u2.2.1, u2.2.2.1, ([] : qL)))) | false => (match (u2.2.2.1.1 == 3) with | true => (match zfd N ([(zB (zx u2.2.2.1))]) with | some y9 => (match (!y9) with | true => (ke (.inl (u2.1, 1, u2.2.1, u2.2.2.1, ([] : qL)))) | false => (ke (.inr u2))) | none => none) | false => (ke (.inr u2)))) | none => none)) | none => none)
abbrev zv9 (N : Nat) (x : Int × qL × RT7 × qL) : Option ((Int × Int × qL × RT7 × qL) ⊕ (Int × qL × RT7 × qL)) := (zam N).L N x
def zd0 (N : Nat) : FSpec where
 X := qL × Int × RT7
 Y := qL × Int
 ash := [[some 1], [none], [none, none, none, none, none, none, none, none, none, none, none, none, none, some 9, none, none, none, none, none, none, none, none, none, none, none, none, none, none, none]]
 S := ⟨[[some 1], [none]], [], [], [], []⟩
 pat := λ a b => zl a λ v1 c2 => jA v1 λ c3 => zl c3 λ c4 c5 => jg 1 c4 λ a0 => zV c5 <| zl c2 λ v6 c7 => Jo .i64 v6 λ a1 => zl c7 λ v8 c9 => zw3 RK7 v8 λ a2 => zV c9 <| zV b <| some (a0, a1, a2)
 args := λ x => [(AV.agg [(AV.list 1 x.1 none)]), (AV.v (.int .i64 x.2.1)), (AV.agg (zQ x.2.2))]
 ret := λ y => ⟨(AV.tup [(AV.agg [(AV.list 1 y.1 none)]), (AV.v (.int .i64 y.2))]), [], none, [], [], [], none⟩
 t := λ x α k => (match zv9 N (x.2.1, x.1, x.2.2, ([] : qL)) with | some y10 => (match y10 with | .inl z11 => (k (z11.2.2.2.2, z11.2.1)) | .inr z12 => (match (decide (z12.1 < 0)) with | true => (k (([] : qL), 6)) | false => (match (decide (z12.1 >= (z12.2.1.length : Int))) with | true => (k (([] : qL), 6)) | false => (match (decide (z12.2.2.1.2.2.2.1 < 0)) with | true => (k (([] : qL), 6)) | false => (match (decide (z12.2.2.1.2.2.2.1 >= (z12.2.1.length : Int))) with | true => (k (([] : qL), 6)) | false => (match (decide (z12.2.2.1.2.1 < 0)) with | true => (k (([] : qL), 2)) | false => (match (decide (z12.2.2.1.2.1 > 18014398509481984)) with | true => (k (([] : qL), 2)) | false => (match zr9 N (z12.2.1, z12.2.2.1.2.1) with | some y13 => (match (!y13) with | true => (k (([] : qL), 9)) | false => (if 0 <= z12.1 then (match z12.2.1[z12.1.toNat]? with | some c14 => (match zdO c14 with | some e15 => (match zcH N e15.1 with | some y16 => (match zfb N (z12.1, z12.2.1, z12.2.2.1, z12.2.2.2, y16) with | some y23 => (match y23 with | .inl z24 => (k (z24.2.2.2.2.1, z24.2.1)) | .inr z25 => (if 0 <= z25.1 then (match z25.2.1[z25.1.toNat]? with | some c26 => (match (c26.drop 0)[0]? with | some x27 => (match jZ 29 x27 with | some l28 => (match ((l28.length : Int) == 100) with | true => (k (([] : qL), 8)) | false => (match zhy N z25.2.2.1.1 with | some y29 => (match y29 with | true => (match zgm N z25.2.1 with | some y30 => (if 0 <= z25.1 /\ z25.1 < (y30.1 : Int) then (match (y30.2.1.map (datJ y30.2.2.1 y30.2.2.2))[(((0 + z25.1.toNat) * 1) + 0)]? with | some c31 => (match c31 with | .list n32 l33 (some q34) => (if n32 = 29 /\ q34 = TOB + (((0 + z25.1.toNat) * 1) + 0) /\ y30.2.2.1 <= (((0 + z25.1.toNat) * 1) + 0) /\ (((0 + z25.1.toNat) * 1) + 0) < y30.2.2.2 then (if (l33.length + [(zQ (z25.2.2.1.1, z25.2.2.1.2.1, z25.2.2.1.2.2.1, z25.2.2.1.2.2.2.1, z25.2.2.2.2.2.2.2.2))].length) * 288 <= zg then (if 0 <= z25.1 /\ z25.1 < (y30.1 : Int) then (if (((0 + z25.1.toNat) * 1) + 0) + 1 <= (y30.2.1.map (datJ y30.2.2.1 y30.2.2.2)).length then (if y30.1 * 1 <= (splice (y30.2.1.map (datJ y30.2.2.1 y30.2.2.2)) (((0 + z25.1.toNat) * 1) + 0) [(AV.list 29 (l33 ++ [(zQ (z25.2.2.1.1, z25.2.2.1.2.1, z25.2.2.1.2.2.1, z25.2.2.1.2.2.2.1, z25.2.2.2.2.2.2.2.2))]) (some 7872))]).length then (k ((zK ((splice (y30.2.1.map (datJ y30.2.2.1 y30.2.2.2)) (((0 + z25.1.toNat) * 1) + 0) [(AV.list 29 (l33 ++ [(zQ (z25.2.2.1.1, z25.2.2.1.2.1, z25.2.2.1.2.2.1, z25.2.2.1.2.2.2.1, z25.2.2.2.2.2.2.2.2))]) (some 7872))]).take (y30.1 * 1)) 1 y30.1), 0)) else none) else none) else none) else none) else none) | _ => none) | none => none) else none) | none => none) | false => (match zgm N z25.2.1 with | some y35 => (if 0 <= z25.1 /\ z25.1 < (y35.1 : Int) then (match (y35.2.1.map (datJ y35.2.2.1 y35.2.2.2))[(((0 + z25.1.toNat) * 1) + 0)]? with | some c36 => (match c36 with | .list n37 l38 (some q39) => (if n37 = 29 /\ q39 = TOB + (((0 + z25.1.toNat) * 1) + 0) /\ y35.2.2.1 <= (((0 + z25.1.toNat) * 1) + 0) /\ (((0 + z25.1.toNat) * 1) + 0) < y35.2.2.2 then (if (l38.length + [(zQ z25.2.2.1)].length) * 288 <= zg then (if 0 <= z25.1 /\ z25.1 < (y35.1 : Int) then (if (((0 + z25.1.toNat) * 1) + 0) + 1 <= (y35.2.1.map (datJ y35.2.2.1 y35.2.2.2)).length then (if y35.1 * 1 <= (splice (y35.2.1.map (datJ y35.2.2.1 y35.2.2.2)) (((0 + z25.1.toNat) * 1) + 0) [(AV.list 29 (l38 ++ [(zQ z25.2.2.1)]) (some 7872))]).length then (k ((zK ((splice (y35.2.1.map (datJ y35.2.2.1 y35.2.2.2)) (((0 + z25.1.toNat) * 1) + 0) [(AV.list 29 (l38 ++ [(zQ z25.2.2.1)]) (some 7872))]).take (y35.1 * 1)) 1 y35.1), 0)) else none) else none) else none) else none) else none) | _ => none) | none => none) else none) | none => none)) | none => none)) | none => none) | none => none) | none => none) else none)) | none => none) | none => none) | none => none) | none => none) else none)) | none => none)))))))) | none => none)
abbrev zdZ (N : Nat) (x : qL × Int × RT7) : Option (qL × Int) := (zd0 N).d x
def zbE (N : Nat) : List (Nat × LSpec) := [(2, zam N), (19, jk N)]
def zgj : Code := Tryd.f54.body.getD .skip
theorem znu (N : Nat) : Par (jk N).b := by
 intro x α β kn ke kn' ke' r r' h h1 h2
 revert h
 dsimp only [jk]
 (repeat' (first | (with_reducible refine ze ?_ ?_) | split)) <;> intro h <;> first | exact h1 _ h | exact h2 _ h | cases h
theorem zkp (N : Nat) : zlz (JQ qP [111, 120]) (zxK N) Ja N (zbE N) 19 zgj (jk N) := λ x α kn ke => by kernel_rfl
theorem zkq (N : Nat) : ZB qP Ja N (zbE N) 19 (zb 19 zgj) :=
 j5 (zL qP [111, 120]) (zh _) zk Ja N (zbE N) 19 zgj (l := []) (by kernel_rfl) an (jk N) rfl (λ s x hc h => by dsimp only [jk] at h; exact zG hc h (λ _ _ => rfl) rfl rfl rfl) (zkp N) (znu N)
theorem zrX (N : Nat) : Par (zam N).b := by
 intro x α β kn ke kn' ke' r r' h h1 h2
 revert h
 dsimp only [zam]
 (repeat' (first | (with_reducible refine ze ?_ ?_) | split)) <;> intro h <;> first | exact h1 _ h | exact h2 _ h | cases h
theorem zns (N : Nat) : zlz (JQ qP [111, 120]) (zxK N) Ja N (zbE N) 2 zgj (zam N) := λ x α kn ke => by kernel_rfl
theorem znt (N : Nat) : ZB qP Ja N (zbE N) 2 (zb 2 zgj) :=
 j5 (zL qP [111, 120]) (zh _) zk Ja N (zbE N) 2 zgj (l := []) (by kernel_rfl) an (zam N) rfl (λ s x hc h => by dsimp only [zam] at h; exact zG hc h (λ _ _ => rfl) rfl rfl rfl) (zns N) (zrX N)
theorem zrY (N : Nat) : Zd (zd0 N).t := by
 intro x α β k k' r r' h h1
 revert h
 dsimp only [zd0]
 (repeat' (first | (with_reducible refine ze ?_ ?_) | split)) <;> intro h <;> first | exact h1 _ h | cases h
theorem zrZ (N : Nat) : Zg (JQ qP [111, 120]) (zxK N) Ja (lam N (zbE N)) Tryd.f54 (zd0 N) := λ x => by kernel_rfl
theorem zxL (N : Nat) (a : List AV) (b : qL) (x : (zd0 N).X) (h : (zd0 N).pat a b = some x) : a = (zd0 N).args x /\ b = (zd0 N).bs x := by
 obtain ⟨v1, c2, rfl, g0⟩ := zd (show zl _ _ = some x from h)
 obtain ⟨c3, rfl, g1⟩ := zW g0; clear g0
 obtain ⟨c4, c5, rfl, g2⟩ := zd g1; clear g1
 obtain ⟨a0, rfl, g3⟩ := zr g2; clear g2
 obtain ⟨rfl, g4⟩ := zi g3; clear g3
 obtain ⟨v6, c7, rfl, g5⟩ := zd g4; clear g4
 obtain ⟨a1, rfl, g6⟩ := zJ g5; clear g5
 obtain ⟨v8, c9, rfl, g7⟩ := zd g6; clear g6
 obtain ⟨a2, rfl, g8⟩ := zdD g7; clear g7
 obtain ⟨rfl, g9⟩ := zi g8; clear g8
 obtain ⟨rfl, g10⟩ := zi g9; clear g9
 clear h
 cases g10
 exact ⟨rfl, rfl⟩
def zrW (N : Nat) : Ent qP := zA (zL qP [111, 120]) (zh _) zk 54 Tryd.f54 Tryd.func54 rfl Ja (lam N (zbE N)) (zm (l := [(2, zb 2 zgj), (19, zb 19 zgj)]) (al (znt N) (al (zkq N) an)) (by kernel_rfl)) (zd0 N) (λ _ => ⟨rfl, rfl⟩) (zrZ N) (zxL N) (zrY N)
def zvC : Nat -> Keep × Keep := anL []
def zCz (N : Nat) : GamK := gam (P := qP) []
def zjQ (N : Nat) : FSpec where
 X := RT7
 Y := Bool
 ash := [[none, none, none, none, none, none, none, none, none, none, none, none, none, some 9, none, none, none, none, none, none, none, none, none, none, none, none, none, none, none]]
 S := ⟨[[none]], [], [], [], []⟩
 pat := λ a b => rdA [.agg RK7] [] a b λ ⟨a0, _⟩ _ => a0
 args := λ x => [(AV.agg (zQ x))]
 ret := λ y => ⟨(AV.v (.bool y)), [], none, [], [], [], none⟩
 t := λ x α k => (match (x.1 == 1) with | true => (k true) | false => (match (x.1 == 3) with | true => (k true) | false => (k (x.1 == 6))))
abbrev zqA (N : Nat) (x : RT7) : Option (Bool) := (zjQ N).d x
theorem zqB (N : Nat) : Zd (zjQ N).t := by
 intro x α β k k' r r' h h1
 revert h
 dsimp only [zjQ]
 (repeat' (first | (with_reducible refine ze ?_ ?_) | split)) <;> intro h <;> first | exact h1 _ h | cases h
theorem zqC (N : Nat) : Zg (zn qP) (zCz N) zvC (lam N []) Tryd.f17 (zjQ N) := λ x => by kernel_rfl
def zzH (N : Nat) : Ent qP := zA (zc qP) (zh _) zk 17 Tryd.f17 Tryd.func17 rfl zvC (lam N []) (zm (l := []) an (by kernel_rfl)) (zjQ N) (λ _ => ⟨rfl, rfl⟩) (zqC N) (λ _ _ _ h => zw h (λ _ _ => rfl) (λ _ _ => rfl)) (zqB N)
def ZI : Nat -> Keep × Keep := anL [(5, ⟨[2, 6], [], [2], [(1, 25)], [], [(5, 1)], [], [], false, none, []⟩, ⟨[2], [], [2], [(1, 25)], [], [(5, 1)], [], [], false, none, []⟩), (18, ⟨[2, 5, 8], [], [2, 1000005], [(1, 25)], [], [], [], [1000005], false, none, []⟩, ⟨[5], [], [1000005], [], [], [], [], [1000005], false, none, []⟩), (26, ⟨[2, 5, 8, 9], [], [2, 1000005], [(1, 25)], [], [], [], [1000005], false, none, []⟩, ⟨[2, 5, 8], [], [2, 1000005], [(1, 25)], [], [], [], [1000005], false, none, []⟩)]
def ziH (N : Nat) : GamK := gam (P := qP) [zl8 N, zzI N, zwf N, zDH N]
def zP (N : Nat) : LSpec where
 X := qL × Nat × Int × Int × qL × qA
 Y := (qL × Nat × Int × qL × qA)
 p := λ s => rdS 81 0 [(1, .lst 25), (2, .ptr 2 0), (5, .vs0 1000005 1), (8, .int .i64), (9, .int .i64)] [(2, .cells [.lst 1]), (1000005, .tt)] s λ ⟨a0, _, a1, a2, a3, _⟩ ⟨⟨a4, _⟩, a5, _⟩ => (a0, a1, a2, a3, a4, a5)
 st := λ u26 => mkS 81 [(1, (AV.list 25 u26.1 none)), (2, (AV.ptr 2 0)), (5, (AV.vs 1000005 0 u26.2.1 1)), (8, (qI u26.2.2.1)), (9, (qI u26.2.2.2.1))] [(2, [(AV.list 1 u26.2.2.2.2.1 none)]), (1000005, u26.2.2.2.2.2)] (ZI 26).1.toks 0
 out := λ y => (.exit 4, mkS 81 [(1, (AV.list 25 y.1 none)), (2, (AV.ptr 2 0)), (5, (AV.vs 1000005 0 y.2.1 1)), (8, (qI y.2.2.1))] [(2, [(AV.list 1 y.2.2.2.1 none)]), (1000005, y.2.2.2.2)] (ZI 26).2.toks 0)
 b := λ u26 α kn ke => (match (decide (u26.2.2.2.1 < (u26.1.length : Int))) with | true => (if 0 <= u26.2.2.1 /\ u26.2.2.1 < (u26.2.1 : Int) then (match u26.2.2.2.2.2[((0 + u26.2.2.1.toNat) * 1)]? with | some x23 => (match x23 with | .v (.int q25 n24) => (if q25 = .i64 then (match (decide (n24 < 0)) with | true => (match zgn N (u26.2.1, u26.2.2.2.1, (u26.2.2.2.2.2.map dat0)) with | some y26 => (match (!y26.1) with | true => (if 0 <= u26.2.2.1 then (match u26.2.2.2.2.1[u26.2.2.1.toNat]? with | some c27 => (match zdO c27 with | some e28 => (match zcH N e28.1 with | some y29 => (if 0 <= u26.2.2.2.1 then (match u26.1[u26.2.2.2.1.toNat]? with | some c30 => (match ((c30.drop 9).drop 0)[0]? with | some x31 => (match jZ 9 x31 with | some l32 => (match ztj N (y29.2.2.2.2.2.2.2.2.2.2.2.2.2.1, l32) with | some y33 => (match y33 with | true => (if 0 <= u26.2.2.1 /\ u26.2.2.1 < (u26.2.1 : Int) then (if ((0 + u26.2.2.1.toNat) * 1) + 1 <= y26.2.length then (kn (u26.1, u26.2.1, u26.2.2.1, (i64 (u26.2.2.2.1 + 1)), u26.2.2.2.2.1, ((splice y26.2 ((0 + u26.2.2.1.toNat) * 1) [(AV.v (.int .i64 u26.2.2.2.1))]).map dat0))) else none) else none) | false => (kn (u26.1, u26.2.1, u26.2.2.1, (i64 (u26.2.2.2.1 + 1)), u26.2.2.2.2.1, (y26.2.map dat0)))) | none => none) | none => none) | none => none) | none => none) else none) | none => none) | none => none) | none => none) else none) | false => (kn (u26.1, u26.2.1, u26.2.2.1, (i64 (u26.2.2.2.1 + 1)), u26.2.2.2.2.1, (y26.2.map dat0)))) | none => none) | false => (ke (u26.1, u26.2.1, u26.2.2.1, u26.2.2.2.2.1, (u26.2.2.2.2.2.map dat0)))) else none) | _ => none) | none => none) else none) | false => (ke (u26.1, u26.2.1, u26.2.2.1, u26.2.2.2.2.1, (u26.2.2.2.2.2.map dat0))))
abbrev ziG (N : Nat) (x : qL × Nat × Int × Int × qL × qA) : Option ((qL × Nat × Int × qL × qA)) := (zP N).L N x
def Zr (N : Nat) : LSpec where
 X := qL × Nat × Int × qL × qA
 Y := (Nat × qA)
 p := λ s => rdS 81 0 [(1, .lst 25), (2, .ptr 2 0), (5, .vs0 1000005 1), (8, .int .i64)] [(2, .cells [.lst 1]), (1000005, .tt)] s λ ⟨a0, _, a1, a2, _⟩ ⟨⟨a3, _⟩, a4, _⟩ => (a0, a1, a2, a3, a4)
 st := λ u18 => mkS 81 [(1, (AV.list 25 u18.1 none)), (2, (AV.ptr 2 0)), (5, (AV.vs 1000005 0 u18.2.1 1)), (8, (qI u18.2.2.1))] [(2, [(AV.list 1 u18.2.2.2.1 none)]), (1000005, u18.2.2.2.2)] (ZI 18).1.toks 0
 out := λ y => (.exit 2, mkS 81 [(5, (AV.vs 1000005 0 y.1 1))] [(1000005, y.2)] (ZI 18).2.toks 0)
 b := λ u18 α kn ke => (match (decide (u18.2.2.1 < (u18.2.2.2.1.length : Int))) with | true => (match ziG N (u18.1, u18.2.1, u18.2.2.1, 0, u18.2.2.2.1, (u18.2.2.2.2.map dat0)) with | some y35 => (kn (y35.1, y35.2.1, (i64 (y35.2.2.1 + 1)), y35.2.2.2.1, (y35.2.2.2.2.map dat0))) | none => none) | false => (ke (u18.2.1, (u18.2.2.2.2.map dat0))))
abbrev ziF (N : Nat) (x : qL × Nat × Int × qL × qA) : Option ((Nat × qA)) := (Zr N).L N x
def Zo (N : Nat) : LSpec where
 X := Nat × qL × Int × qL × qA
 Y := (Nat × qL × qL × qA)
 p := λ s => rdS 81 0 [(5, .vs0 1000005 1), (1, .lst 25), (2, .ptr 2 0), (6, .int .i64)] [(2, .cells [.lst 1]), (1000005, .tt)] s λ ⟨a0, a1, _, a2, _⟩ ⟨⟨a3, _⟩, a4, _⟩ => (a0, a1, a2, a3, a4)
 st := λ u5 => mkS 81 [(5, (AV.vs 1000005 0 u5.1 1)), (1, (AV.list 25 u5.2.1 none)), (2, (AV.ptr 2 0)), (6, (qI u5.2.2.1))] [(2, [(AV.list 1 u5.2.2.2.1 none)]), (1000005, u5.2.2.2.2)] (ZI 5).1.toks 0
 out := λ y => (.exit 0, mkS 81 [(5, (AV.vs 1000005 0 y.1 1)), (1, (AV.list 25 y.2.1 none)), (2, (AV.ptr 2 0))] [(2, [(AV.list 1 y.2.2.1 none)]), (1000005, y.2.2.2)] (ZI 5).2.toks 0)
 b := λ u5 α kn ke => (match (decide (u5.2.2.1 < (u5.2.2.2.1.length : Int))) with | true => (if 0 <= u5.2.2.1 then (match u5.2.2.2.1[u5.2.2.1.toNat]? with | some c6 => (match zdO c6 with | some e7 => (match zcH N e7.1 with | some y8 => (match zjR N (u5.2.1, (zfp y8)) with | some y9 => (match zgn N (u5.1, y9, (u5.2.2.2.2.map dat0)) with | some y10 => (match y10.1 with | true => (if u5.1 * 1 <= y10.2.length /\ (u5.1 + [[(AV.v (.int .i64 (-1)))]].length) * 8 <= zg then (kn ((u5.1 + [[(AV.v (.int .i64 (-1)))]].length), u5.2.1, (i64 (u5.2.2.1 + 1)), u5.2.2.2.1, ((y10.2.take (u5.1 * 1) ++ [[(AV.v (.int .i64 (-1)))]].flatten).map dat0))) else none) | false => (if u5.1 * 1 <= y10.2.length /\ (u5.1 + [[(AV.v (.int .i64 y9))]].length) * 8 <= zg then (kn ((u5.1 + [[(AV.v (.int .i64 y9))]].length), u5.2.1, (i64 (u5.2.2.1 + 1)), u5.2.2.2.1, ((y10.2.take (u5.1 * 1) ++ [[(AV.v (.int .i64 y9))]].flatten).map dat0))) else none)) | none => none) | none => none) | none => none) | none => none) | none => none) else none) | false => (ke (u5.1, u5.2.1, u5.2.2.2.1, (u5.2.2.2.2.map dat0))))
abbrev znH (N : Nat) (x : Nat × qL × Int × qL × qA) : Option ((Nat × qL × qL × qA)) := (Zo N).L N x
def zao (N : Nat) : FSpec where
 X := qL × qL
 Y := Nat × qA
 ash := [[some 1], [some 25]]
 S := ⟨[[some 1000001]], [], [], [], []⟩
 bm := true
 pat := λ a b => zl a λ v1 c2 => jA v1 λ c3 => zl c3 λ c4 c5 => jg 1 c4 λ a0 => zV c5 <| zl c2 λ v6 c7 => jg 25 v6 λ a1 => zV c7 <| zV b <| some (a0, a1)
 args := λ x => [(AV.agg [(AV.list 1 x.1 none)]), (AV.list 25 x.2 none)]
 ret := λ y => ⟨(AV.vs 0 0 y.1 1), [], some y.2, [], [], [], none⟩
 t := λ x α k => (match znH N (0, x.2, 0, x.1, ([] : List AV)) with | some y11 => (match ziF N (y11.2.1, y11.1, 0, y11.2.2.1, (y11.2.2.2.map dat0)) with | some y36 => (k (y36.1, (y36.2.map dat0))) | none => none) | none => none)
abbrev znG (N : Nat) (x : qL × qL) : Option (Nat × qA) := (zao N).d x
def jS (N : Nat) : List (Nat × LSpec) := [(5, Zo N), (18, Zr N), (26, zP N)]
def Jp : Code := Tryd.f59.body.getD .skip
theorem zky (N : Nat) : Par (zP N).b := by
 intro x α β kn ke kn' ke' r r' h h1 h2
 revert h
 dsimp only [zP]
 (repeat' (first | (with_reducible refine ze ?_ ?_) | split)) <;> intro h <;> first | exact h1 _ h | exact h2 _ h | cases h
theorem zhv (N : Nat) : Z3 (JQ qP [33]) (ziH N) ZI N (jS N) 26 Jp (zP N) := λ x α kn ke => by kernel_rfl
theorem zcT (N : Nat) : ZB qP ZI N (jS N) 26 (zb 26 Jp) :=
 zD (zL qP [33]) (zh _) zk ZI N (jS N) 26 Jp (l := []) (by kernel_rfl) (by kernel_rfl) an (zP N) rfl (λ s x hc h => by dsimp only [zP] at h; exact zG hc h (λ _ _ => rfl) rfl rfl rfl) (λ _ => rfl) (zhv N) (zky N)
theorem zkx (N : Nat) : Par (Zr N).b := by
 intro x α β kn ke kn' ke' r r' h h1 h2
 revert h
 dsimp only [Zr]
 (repeat' (first | (with_reducible refine ze ?_ ?_) | split)) <;> intro h <;> first | exact h1 _ h | exact h2 _ h | cases h
theorem zhu (N : Nat) : Z3 (JQ qP [33]) (ziH N) ZI N (jS N) 18 Jp (Zr N) := λ x α kn ke => by kernel_rfl
theorem zhw (N : Nat) : ZB qP ZI N (jS N) 18 (zb 18 Jp) :=
 zD (zL qP [33]) (zh _) zk ZI N (jS N) 18 Jp (l := [(26, zb 26 Jp)]) (by kernel_rfl) (by kernel_rfl) (al (zcT N) an) (Zr N) rfl (λ s x hc h => by dsimp only [Zr] at h; exact zG hc h (λ _ _ => rfl) rfl rfl rfl) (λ _ => rfl) (zhu N) (zkx N)
theorem znI (N : Nat) : Par (Zo N).b := by
 intro x α β kn ke kn' ke' r r' h h1 h2
 revert h
 dsimp only [Zo]
 (repeat' (first | (with_reducible refine ze ?_ ?_) | split)) <;> intro h <;> first | exact h1 _ h | exact h2 _ h | cases h
theorem zkv (N : Nat) : Z3 (JQ qP [33]) (ziH N) ZI N (jS N) 5 Jp (Zo N) := λ x α kn ke => by kernel_rfl
theorem zkw (N : Nat) : ZB qP ZI N (jS N) 5 (zb 5 Jp) :=
 zD (zL qP [33]) (zh _) zk ZI N (jS N) 5 Jp (l := []) (by kernel_rfl) (by kernel_rfl) an (Zo N) rfl (λ s x hc h => by dsimp only [Zo] at h; exact zG hc h (λ _ _ => rfl) rfl rfl rfl) (λ _ => rfl) (zkv N) (znI N)
theorem znJ (N : Nat) : Zd (zao N).t := by
 intro x α β k k' r r' h h1
 revert h
 dsimp only [zao]
 (repeat' (first | (with_reducible refine ze ?_ ?_) | split)) <;> intro h <;> first | exact h1 _ h | cases h
theorem znK (N : Nat) : Zg (JQ qP [33]) (ziH N) ZI (lam N (jS N)) Tryd.f59 (zao N) := λ x => by kernel_rfl
theorem zse (N : Nat) (a : List AV) (b : qL) (x : (zao N).X) (h : (zao N).pat a b = some x) : a = (zao N).args x /\ b = (zao N).bs x := by
 obtain ⟨v1, c2, rfl, g0⟩ := zd (show zl _ _ = some x from h)
 obtain ⟨c3, rfl, g1⟩ := zW g0; clear g0
 obtain ⟨c4, c5, rfl, g2⟩ := zd g1; clear g1
 obtain ⟨a0, rfl, g3⟩ := zr g2; clear g2
 obtain ⟨rfl, g4⟩ := zi g3; clear g3
 obtain ⟨v6, c7, rfl, g5⟩ := zd g4; clear g4
 obtain ⟨a1, rfl, g6⟩ := zr g5; clear g5
 obtain ⟨rfl, g7⟩ := zi g6; clear g6
 obtain ⟨rfl, g8⟩ := zi g7; clear g7
 clear h
 cases g8
 exact ⟨rfl, rfl⟩
def zAn (N : Nat) : Ent qP := zA (zL qP [33]) (zh _) zk 59 Tryd.f59 Tryd.func59 rfl ZI (lam N (jS N)) (zm (l := [(5, zb 5 Jp), (18, zb 18 Jp), (26, zb 26 Jp)]) (al (zkw N) (al (zhw N) (al (zcT N) an))) (by kernel_rfl)) (zao N) (λ _ => ⟨rfl, rfl⟩) (znK N) (zse N) (znJ N)
def jh : Nat -> Keep × Keep := anF [(18, ⟨[2, 3, 6, 9, 10, 12], [(11, 1)], [3, 6, 9, 40, 43], [(1, 25)], [((6, 0), 1)], [], [], [40, 43], false, some 40, []⟩, ⟨[2, 6, 8, 9, 10], [(11, 1)], [6, 9, 40, 43], [(1, 25), (7, 1)], [((6, 0), 1)], [], [], [40, 43], false, some 40, []⟩), (30, ⟨[2, 3, 6, 9, 10, 12, 13, 14, 15, 16, 68], [(11, 1)], [3, 6, 9, 13, 14, 40, 43], [(1, 25)], [((6, 0), 1)], [], [], [40, 43], true, some 40, []⟩, ⟨[2, 3, 6, 9, 10, 12, 13, 14, 15], [(11, 1)], [3, 6, 9, 13, 14, 40, 43], [(1, 25)], [((6, 0), 1)], [], [], [40, 43], false, some 40, []⟩), (42, ⟨[2, 6, 9, 10, 17], [(11, 1)], [6, 9, 43], [(1, 25)], [((6, 0), 1)], [], [((9, 0), 1)], [43], false, none, []⟩, ⟨[6, 9], [(11, 1)], [6, 9], [], [((6, 0), 1)], [], [((9, 0), 1)], [], false, none, []⟩)] [(100032, ([], [((9, 0), 1)]))]
def zqX (N : Nat) : GamK := gam (P := qP) [zAj N, zxN N, zAl N, zwd N, zAn N, zl8 N, zzH N, zzX N, zqv N, zwf N]
def Zt (N : Nat) : LSpec where
 X := qL × qL × Int × Nat × Int × qL × Nat × qA × qA
 Y := (qL × qL × Nat × qA)
 p := λ s => rdS 155 0 [(11, .tok 1 1280000704), (1, .lst 25), (2, .int .i64), (6, .ptr 6 0), (9, .ptr 9 0), (10, .vs0 43 1), (17, .int .i64)] [(6, .cells [.tok 1 6401572864]), (9, .cells [.vs0 2036864 1]), (43, .tt), (2036864, .tt)] s λ ⟨a0, a1, a2, _, _, a3, a4, _⟩ ⟨⟨a5, _⟩, ⟨a6, _⟩, a7, a8, _⟩ => (a0, a1, a2, a3, a4, a5, a6, a7, a8)
 st := λ u42 => mkS 155 [(11, (AV.list 1 u42.1 (some 1280000704))), (1, (AV.list 25 u42.2.1 none)), (2, (qI u42.2.2.1)), (6, (AV.ptr 6 0)), (9, (AV.ptr 9 0)), (10, (AV.vs 43 0 u42.2.2.2.1 1)), (17, (qI u42.2.2.2.2.1))] [(6, [(AV.list 1 u42.2.2.2.2.2.1 (some 6401572864))]), (9, [(AV.vs 2036864 0 u42.2.2.2.2.2.2.1 1)]), (43, u42.2.2.2.2.2.2.2.1), (2036864, u42.2.2.2.2.2.2.2.2)] (jh 42).1.toks 0
 out := λ y => (.exit 2, mkS 155 [(11, (AV.list 1 y.1 (some 1280000704))), (6, (AV.ptr 6 0)), (9, (AV.ptr 9 0))] [(6, [(AV.list 1 y.2.1 (some 6401572864))]), (9, [(AV.vs 2036864 0 y.2.2.1 1)]), (2036864, y.2.2.2)] (jh 42).2.toks 0)
 b := λ u42 α kn ke => (match (decide (u42.2.2.2.2.1 < (u42.2.1.length : Int))) with | true => (match zgn N (u42.2.2.2.1, u42.2.2.2.2.1, (u42.2.2.2.2.2.2.2.1.map dat0)) with | some y58 => (match (!y58.1) with | true => (if (u42.1.length + [[(AV.v (.int .i64 ((u42.2.2.2.2.2.2.1 : Nat) : Int)))]].length) * 8 <= zg then (if 0 <= u42.2.2.2.2.1 then (match u42.2.1[u42.2.2.2.2.1.toNat]? with | some c59 => (match zhD c59 with | some e60 => (if u42.2.2.2.2.2.2.1 * 1 <= u42.2.2.2.2.2.2.2.2.length /\ (u42.2.2.2.2.2.2.1 + [[(AV.list 29 [(zQ (1, u42.2.2.1, (⟨#[]⟩ : ByteArray), 0, e60))] none)]].length) * 24 <= zg then (kn ((u42.1 ++ [[(AV.v (.int .i64 ((u42.2.2.2.2.2.2.1 : Nat) : Int)))]]), u42.2.1, u42.2.2.1, u42.2.2.2.1, (i64 (u42.2.2.2.2.1 + 1)), u42.2.2.2.2.2.1, (u42.2.2.2.2.2.2.1 + [[(AV.list 29 [(zQ (1, u42.2.2.1, (⟨#[]⟩ : ByteArray), 0, e60))] none)]].length), (y58.2.map dat0), ((u42.2.2.2.2.2.2.2.2.take (u42.2.2.2.2.2.2.1 * 1) ++ [[(AV.list 29 [(zQ (1, u42.2.2.1, (⟨#[]⟩ : ByteArray), 0, e60))] none)]].flatten).map dat0))) else none) | none => none) | none => none) else none) else none) | false => (kn (u42.1, u42.2.1, u42.2.2.1, u42.2.2.2.1, (i64 (u42.2.2.2.2.1 + 1)), u42.2.2.2.2.2.1, u42.2.2.2.2.2.2.1, (y58.2.map dat0), (u42.2.2.2.2.2.2.2.2.map dat0)))) | none => none) | false => (ke (u42.1, u42.2.2.2.2.2.1, u42.2.2.2.2.2.2.1, (u42.2.2.2.2.2.2.2.2.map dat0))))
abbrev zmm (N : Nat) (x : qL × qL × Int × Nat × Int × qL × Nat × qA × qA) : Option ((qL × qL × Nat × qA)) := (Zt N).L N x
def jw (N : Nat) : LSpec where
 X := qL × qL × Int × Nat × Int × Bool × Int × Bool × qL × qL × Nat × RT7 × RT7 × qA × qA × Nat × Nat
 Y := (qL × qL × Int × Nat × Int × Bool × qL × qL × Nat × RT7 × RT7 × qA × qA × Nat × Nat)
 p := λ s => rdF 155 0 40 [(11, .tok 1 1280000704), (1, .lst 25), (2, .int .i64), (3, .ptr 3 0), (6, .ptr 6 0), (9, .ptr 9 0), (10, .vs0 43 1), (12, .int .i64), (13, .ptr 13 0), (14, .ptr 14 0), (15, .bool), (16, .int .i64), (68, .bool)] [(3, .cells [.lst 1]), (6, .cells [.tok 1 6401572864]), (9, .cells [.vs0 40 1]), (13, .row RK7), (14, .row RK7), (40, .tt), (43, .tt)] s λ ⟨a0, a1, a2, _, _, _, a3, a4, _, _, a5, a6, a7, _⟩ ⟨⟨a8, _⟩, ⟨a9, _⟩, ⟨a10, _⟩, a11, a12, a13, a14, _⟩ a15 a16 => (a0, a1, a2, a3, a4, a5, a6, a7, a8, a9, a10, a11, a12, a13, a14, a15, a16)
 st := λ u30 => mkF 155 [(11, (AV.list 1 u30.1 (some 1280000704))), (1, (AV.list 25 u30.2.1 none)), (2, (qI u30.2.2.1)), (3, (AV.ptr 3 0)), (6, (AV.ptr 6 0)), (9, (AV.ptr 9 0)), (10, (AV.vs 43 0 u30.2.2.2.1 1)), (12, (qI u30.2.2.2.2.1)), (13, (AV.ptr 13 0)), (14, (AV.ptr 14 0)), (15, (AV.v (.bool u30.2.2.2.2.2.1))), (16, (qI u30.2.2.2.2.2.2.1)), (68, (AV.v (.bool u30.2.2.2.2.2.2.2.1)))] [(3, [(AV.list 1 u30.2.2.2.2.2.2.2.2.1 none)]), (6, [(AV.list 1 u30.2.2.2.2.2.2.2.2.2.1 (some 6401572864))]), (9, [(AV.vs 40 0 u30.2.2.2.2.2.2.2.2.2.2.1 1)]), (13, (zQ u30.2.2.2.2.2.2.2.2.2.2.2.1)), (14, (zQ u30.2.2.2.2.2.2.2.2.2.2.2.2.1)), (40, u30.2.2.2.2.2.2.2.2.2.2.2.2.2.1), (43, u30.2.2.2.2.2.2.2.2.2.2.2.2.2.2.1)] (jh 30).1.toks 0 (some (40, u30.2.2.2.2.2.2.2.2.2.2.2.2.2.2.2.1, u30.2.2.2.2.2.2.2.2.2.2.2.2.2.2.2.2))
 out := λ y => (.normal, mkF 155 [(11, (AV.list 1 y.1 (some 1280000704))), (1, (AV.list 25 y.2.1 none)), (2, (qI y.2.2.1)), (3, (AV.ptr 3 0)), (6, (AV.ptr 6 0)), (9, (AV.ptr 9 0)), (10, (AV.vs 43 0 y.2.2.2.1 1)), (12, (qI y.2.2.2.2.1)), (13, (AV.ptr 13 0)), (14, (AV.ptr 14 0)), (15, (AV.v (.bool y.2.2.2.2.2.1)))] [(3, [(AV.list 1 y.2.2.2.2.2.2.1 none)]), (6, [(AV.list 1 y.2.2.2.2.2.2.2.1 (some 6401572864))]), (9, [(AV.vs 40 0 y.2.2.2.2.2.2.2.2.1 1)]), (13, (zQ y.2.2.2.2.2.2.2.2.2.1)), (14, (zQ y.2.2.2.2.2.2.2.2.2.2.1)), (40, y.2.2.2.2.2.2.2.2.2.2.2.1), (43, y.2.2.2.2.2.2.2.2.2.2.2.2.1)] (jh 30).2.toks 0 (some (40, y.2.2.2.2.2.2.2.2.2.2.2.2.2.1, y.2.2.2.2.2.2.2.2.2.2.2.2.2.2)))
 b := λ u30 α kn ke => (match u30.2.2.2.2.2.2.2.1 with | true => (if 0 <= u30.2.2.2.2.2.2.1 then (match u30.2.1[u30.2.2.2.2.2.2.1.toNat]? with | some c24 => (match zhD c24 with | some e25 => (match zqA N u30.2.2.2.2.2.2.2.2.2.2.2.1 with | some y26 => (match y26 with | true => (if 0 <= u30.2.2.2.2.2.2.1 then (match u30.2.1[u30.2.2.2.2.2.2.1.toNat]? with | some c27 => (match zhD c27 with | some e28 => (match zdX N ((zx u30.2.2.2.2.2.2.2.2.2.2.2.1), e28) with | some y29 => (ke (u30.1, u30.2.1, u30.2.2.1, u30.2.2.2.1, u30.2.2.2.2.1, y29, u30.2.2.2.2.2.2.2.2.1, u30.2.2.2.2.2.2.2.2.2.1, u30.2.2.2.2.2.2.2.2.2.2.1, u30.2.2.2.2.2.2.2.2.2.2.2.1, (1, u30.2.2.2.2.2.2.2.2.2.2.2.2.1.2.1, u30.2.2.2.2.2.2.2.2.2.2.2.2.1.2.2.1, u30.2.2.2.2.2.2.2.2.2.2.2.2.1.2.2.2.1, e25), (u30.2.2.2.2.2.2.2.2.2.2.2.2.2.1.map datF), (u30.2.2.2.2.2.2.2.2.2.2.2.2.2.2.1.map dat0), u30.2.2.2.2.2.2.2.2.2.2.2.2.2.2.2)) | none => none) | none => none) | none => none) else none) | false => (ke (u30.1, u30.2.1, u30.2.2.1, u30.2.2.2.1, u30.2.2.2.2.1, false, u30.2.2.2.2.2.2.2.2.1, u30.2.2.2.2.2.2.2.2.2.1, u30.2.2.2.2.2.2.2.2.2.2.1, u30.2.2.2.2.2.2.2.2.2.2.2.1, (1, u30.2.2.2.2.2.2.2.2.2.2.2.2.1.2.1, u30.2.2.2.2.2.2.2.2.2.2.2.2.1.2.2.1, u30.2.2.2.2.2.2.2.2.2.2.2.2.1.2.2.2.1, e25), (u30.2.2.2.2.2.2.2.2.2.2.2.2.2.1.map datF), (u30.2.2.2.2.2.2.2.2.2.2.2.2.2.2.1.map dat0), u30.2.2.2.2.2.2.2.2.2.2.2.2.2.2.2))) | none => none) | none => none) | none => none) else none) | false => (ke (u30.1, u30.2.1, u30.2.2.1, u30.2.2.2.1, u30.2.2.2.2.1, u30.2.2.2.2.2.1, u30.2.2.2.2.2.2.2.2.1, u30.2.2.2.2.2.2.2.2.2.1, u30.2.2.2.2.2.2.2.2.2.2.1, u30.2.2.2.2.2.2.2.2.2.2.2.1, u30.2.2.2.2.2.2.2.2.2.2.2.2.1, (u30.2.2.2.2.2.2.2.2.2.2.2.2.2.1.map datF), (u30.2.2.2.2.2.2.2.2.2.2.2.2.2.2.1.map dat0), u30.2.2.2.2.2.2.2.2.2.2.2.2.2.2.2)))
abbrev zcJ (N : Nat) (x : qL × qL × Int × Nat × Int × Bool × Int × Bool × qL × qL × Nat × RT7 × RT7 × qA × qA × Nat × Nat) : Option ((qL × qL × Int × Nat × Int × Bool × qL × qL × Nat × RT7 × RT7 × qA × qA × Nat × Nat)) := (jw N).L N x
def Zs (N : Nat) : LSpec where
 X := qL × qL × Int × Nat × Int × qL × qL × Nat × qA × qA × Nat × Nat
 Y := (qL × qL × qL × Int × Int × Nat × qL × Nat × qA × qA × Nat × Nat) ⊕ (qL × qL × Int × Nat × qL × Nat × qA × qA × Nat × Nat)
 p := λ s => rdF 155 0 40 [(11, .tok 1 1280000704), (1, .lst 25), (2, .int .i64), (3, .ptr 3 0), (6, .ptr 6 0), (9, .ptr 9 0), (10, .vs0 43 1), (12, .int .i64)] [(3, .cells [.lst 1]), (6, .cells [.tok 1 6401572864]), (9, .cells [.vs0 40 1]), (40, .tt), (43, .tt)] s λ ⟨a0, a1, a2, _, _, _, a3, a4, _⟩ ⟨⟨a5, _⟩, ⟨a6, _⟩, ⟨a7, _⟩, a8, a9, _⟩ a10 a11 => (a0, a1, a2, a3, a4, a5, a6, a7, a8, a9, a10, a11)
 st := λ u18 => mkF 155 [(11, (AV.list 1 u18.1 (some 1280000704))), (1, (AV.list 25 u18.2.1 none)), (2, (qI u18.2.2.1)), (3, (AV.ptr 3 0)), (6, (AV.ptr 6 0)), (9, (AV.ptr 9 0)), (10, (AV.vs 43 0 u18.2.2.2.1 1)), (12, (qI u18.2.2.2.2.1))] [(3, [(AV.list 1 u18.2.2.2.2.2.1 none)]), (6, [(AV.list 1 u18.2.2.2.2.2.2.1 (some 6401572864))]), (9, [(AV.vs 40 0 u18.2.2.2.2.2.2.2.1 1)]), (40, u18.2.2.2.2.2.2.2.2.1), (43, u18.2.2.2.2.2.2.2.2.2.1)] (jh 18).1.toks 0 (some (40, u18.2.2.2.2.2.2.2.2.2.2.1, u18.2.2.2.2.2.2.2.2.2.2.2))
 out := λ y => match y with
  | .inl y => (.ret, mkF 155 [(11, (AV.list 1 y.1 (some 1280000704))), (1, (AV.list 25 y.2.1 none)), (7, (AV.list 1 y.2.2.1 none)), (2, (qI y.2.2.2.1)), (6, (AV.ptr 6 0)), (8, (qI y.2.2.2.2.1)), (9, (AV.ptr 9 0)), (10, (AV.vs 43 0 y.2.2.2.2.2.1 1))] [(6, [(AV.list 1 y.2.2.2.2.2.2.1 (some 6401572864))]), (9, [(AV.vs 40 0 y.2.2.2.2.2.2.2.1 1)]), (40, y.2.2.2.2.2.2.2.2.1), (43, y.2.2.2.2.2.2.2.2.2.1)] (jh 18).2.toks 0 (some (40, y.2.2.2.2.2.2.2.2.2.2.1, y.2.2.2.2.2.2.2.2.2.2.2)))
  | .inr y => (.exit 0, mkF 155 [(11, (AV.list 1 y.1 (some 1280000704))), (1, (AV.list 25 y.2.1 none)), (2, (qI y.2.2.1)), (6, (AV.ptr 6 0)), (9, (AV.ptr 9 0)), (10, (AV.vs 43 0 y.2.2.2.1 1))] [(6, [(AV.list 1 y.2.2.2.2.1 (some 6401572864))]), (9, [(AV.vs 40 0 y.2.2.2.2.2.1 1)]), (40, y.2.2.2.2.2.2.1), (43, y.2.2.2.2.2.2.2.1)] (jh 18).2.toks 0 (some (40, y.2.2.2.2.2.2.2.2.1, y.2.2.2.2.2.2.2.2.2)))
 b := λ u18 α kn ke => (match (decide (u18.2.2.2.2.1 < ((u18.2.2.2.1 : Nat) : Int))) with | true => (if 0 <= u18.2.2.2.2.1 then (match u18.2.2.2.2.2.1[u18.2.2.2.2.1.toNat]? with | some c38 => (match zdO c38 with | some e39 => (match zcH N e39.1 with | some y40 => (if 0 <= u18.2.2.2.2.1 /\ u18.2.2.2.2.1 < (u18.2.2.2.1 : Int) then (match u18.2.2.2.2.2.2.2.2.2.1[((0 + u18.2.2.2.2.1.toNat) * 1)]? with | some x41 => (match x41 with | .v (.int q43 n42) => (if q43 = .i64 then (match zcJ N (u18.1, u18.2.1, u18.2.2.1, u18.2.2.2.1, u18.2.2.2.2.1, (y40.1 == 2), n42, (decide (n42 >= 0)), u18.2.2.2.2.2.1, u18.2.2.2.2.2.2.1, u18.2.2.2.2.2.2.2.1, y40, (2, u18.2.2.1, (⟨#[]⟩ : ByteArray), 0, y40.2.2.2.2), (u18.2.2.2.2.2.2.2.2.1.map datF), (u18.2.2.2.2.2.2.2.2.2.1.map dat0), u18.2.2.2.2.2.2.2.2.2.2) with | some y44 => (match ze0 N y44.2.2.2.2.2.2.2.2.2.1 with | some y45 => (match y45 with | true => (match (!y44.2.2.2.2.2.1) with | true => (if 0 <= y44.2.2.2.2.1 /\ y44.2.2.2.2.1 < (y44.2.2.2.2.2.2.2.2.1 : Int) then (match y44.2.2.2.2.2.2.2.2.2.2.2.1[(((0 + y44.2.2.2.2.1.toNat) * 1) + 0)]? with | some c46 => (match c46 with | .list n47 l48 (some q49) => (if n47 = 29 /\ q49 = TOB + (((0 + y44.2.2.2.2.1.toNat) * 1) + 0) /\ y44.2.2.2.2.2.2.2.2.2.2.2.2.2.1 <= (((0 + y44.2.2.2.2.1.toNat) * 1) + 0) /\ (((0 + y44.2.2.2.2.1.toNat) * 1) + 0) < y44.2.2.2.2.2.2.2.2.2.2.2.2.2.2 then (if (l48.length + [(zQ y44.2.2.2.2.2.2.2.2.2.2.1)].length) * 288 <= zg then (if 0 <= y44.2.2.2.2.1 /\ y44.2.2.2.2.1 < (y44.2.2.2.2.2.2.2.2.1 : Int) then (if (((0 + y44.2.2.2.2.1.toNat) * 1) + 0) + 1 <= y44.2.2.2.2.2.2.2.2.2.2.2.1.length then (if (y44.1.length + [[(AV.v (.int .i64 y44.2.2.2.2.1))]].length) * 8 <= zg then (if 0 <= y44.2.2.2.2.1 /\ y44.2.2.2.2.1 < (y44.2.2.2.2.2.2.2.2.1 : Int) then (match (splice y44.2.2.2.2.2.2.2.2.2.2.2.1 (((0 + y44.2.2.2.2.1.toNat) * 1) + 0) [(AV.list 29 (l48 ++ [(zQ y44.2.2.2.2.2.2.2.2.2.2.1)]) (some 6592))])[(((0 + y44.2.2.2.2.1.toNat) * 1) + 0)]? with | some x50 => (match jZ 29 x50 with | some l51 => (match (decide ((l51.length : Int) > 100)) with | true => (ke (.inl ((y44.1 ++ [[(AV.v (.int .i64 y44.2.2.2.2.1))]]), y44.2.1, ([] : qL), y44.2.2.1, 8, y44.2.2.2.1, ([] : qL), y44.2.2.2.2.2.2.2.2.1, ((splice y44.2.2.2.2.2.2.2.2.2.2.2.1 (((0 + y44.2.2.2.2.1.toNat) * 1) + 0) [(AV.list 29 (l48 ++ [(zQ y44.2.2.2.2.2.2.2.2.2.2.1)]) (some 6592))]).map datF), (y44.2.2.2.2.2.2.2.2.2.2.2.2.1.map dat0), ((((0 + y44.2.2.2.2.1.toNat) * 1) + 0) + 1), y44.2.2.2.2.2.2.2.2.2.2.2.2.2.2))) | false => (kn ((y44.1 ++ [[(AV.v (.int .i64 y44.2.2.2.2.1))]]), y44.2.1, y44.2.2.1, y44.2.2.2.1, (i64 (y44.2.2.2.2.1 + 1)), y44.2.2.2.2.2.2.1, y44.2.2.2.2.2.2.2.1, y44.2.2.2.2.2.2.2.2.1, ((splice y44.2.2.2.2.2.2.2.2.2.2.2.1 (((0 + y44.2.2.2.2.1.toNat) * 1) + 0) [(AV.list 29 (l48 ++ [(zQ y44.2.2.2.2.2.2.2.2.2.2.1)]) (some 6592))]).map datF), (y44.2.2.2.2.2.2.2.2.2.2.2.2.1.map dat0), ((((0 + y44.2.2.2.2.1.toNat) * 1) + 0) + 1), y44.2.2.2.2.2.2.2.2.2.2.2.2.2.2))) | none => none) | none => none) else none) else none) else none) else none) else none) else none) | _ => none) | none => none) else none) | false => (kn (y44.1, y44.2.1, y44.2.2.1, y44.2.2.2.1, (i64 (y44.2.2.2.2.1 + 1)), y44.2.2.2.2.2.2.1, y44.2.2.2.2.2.2.2.1, y44.2.2.2.2.2.2.2.2.1, (y44.2.2.2.2.2.2.2.2.2.2.2.1.map datF), (y44.2.2.2.2.2.2.2.2.2.2.2.2.1.map dat0), y44.2.2.2.2.2.2.2.2.2.2.2.2.2))) | false => (kn (y44.1, y44.2.1, y44.2.2.1, y44.2.2.2.1, (i64 (y44.2.2.2.2.1 + 1)), y44.2.2.2.2.2.2.1, y44.2.2.2.2.2.2.2.1, y44.2.2.2.2.2.2.2.2.1, (y44.2.2.2.2.2.2.2.2.2.2.2.1.map datF), (y44.2.2.2.2.2.2.2.2.2.2.2.2.1.map dat0), y44.2.2.2.2.2.2.2.2.2.2.2.2.2))) | none => none) | none => none) else none) | _ => none) | none => none) else none) | none => none) | none => none) | none => none) else none) | false => (ke (.inr (u18.1, u18.2.1, u18.2.2.1, u18.2.2.2.1, u18.2.2.2.2.2.2.1, u18.2.2.2.2.2.2.2.1, (u18.2.2.2.2.2.2.2.2.1.map datF), (u18.2.2.2.2.2.2.2.2.2.1.map dat0), u18.2.2.2.2.2.2.2.2.2.2))))
abbrev zml (N : Nat) (x : qL × qL × Int × Nat × Int × qL × qL × Nat × qA × qA × Nat × Nat) : Option ((qL × qL × qL × Int × Int × Nat × qL × Nat × qA × qA × Nat × Nat) ⊕ (qL × qL × Int × Nat × qL × Nat × qA × qA × Nat × Nat)) := (Zs N).L N x
def zdU (N : Nat) : FSpec where
 X := qL × qL × Int
 Y := qL × qL × Int
 ash := [[some 1], [some 25], [none]]
 S := ⟨[[some 1], [some 1], [none]], [], [], [], []⟩
 pat := λ a b => zl a λ v1 c2 => jA v1 λ c3 => zl c3 λ c4 c5 => jg 1 c4 λ a0 => zV c5 <| zl c2 λ v6 c7 => jg 25 v6 λ a1 => zl c7 λ v8 c9 => Jo .i64 v8 λ a2 => zV c9 <| zV b <| some (a0, a1, a2)
 args := λ x => [(AV.agg [(AV.list 1 x.1 none)]), (AV.list 25 x.2.1 none), (AV.v (.int .i64 x.2.2))]
 ret := λ y => ⟨(AV.tup [(AV.agg [(AV.list 1 y.1 none)]), (AV.list 1 y.2.1 none), (AV.v (.int .i64 y.2.2))]), [], none, [], [], [], none⟩
 t := λ x α k => (match zr1 N x.1 with | some y1 => (match (!y1) with | true => (k (([] : qL), ([] : qL), 1)) | false => (match zfd N x.2.1 with | some y2 => (match (!y2) with | true => (k (([] : qL), ([] : qL), 1)) | false => (match (decide (x.2.2 < 0)) with | true => (k (([] : qL), ([] : qL), 2)) | false => (match (decide (x.2.2 > 18014398509481984)) with | true => (k (([] : qL), ([] : qL), 2)) | false => (match zr9 N (x.1, x.2.2) with | some y3 => (match (!y3) with | true => (k (([] : qL), ([] : qL), 9)) | false => (match zgm N x.1 with | some y4 => (match znG N (x.1, x.2.1) with | some y5 => (match zml N (([] : qL), x.2.1, x.2.2, y5.1, 0, x.1, ([] : qL), y4.1, ((y4.2.1.map (datJ y4.2.2.1 y4.2.2.2)).map datF), ((y5.2.map dat0).map dat0), y4.2.2) with | some y52 => (match y52 with | .inl z53 => (k (z53.2.2.2.2.2.2.1, z53.2.2.1, z53.2.2.2.2.1)) | .inr z54 => (match zmm N (z54.1, z54.2.1, z54.2.2.1, z54.2.2.2.1, 0, z54.2.2.2.2.1, z54.2.2.2.2.2.1, (z54.2.2.2.2.2.2.2.1.map dat0), (z54.2.2.2.2.2.2.1.map dat0)) with | some y61 => (match (decide (((y61.2.2.1 : Nat) : Int) > 500)) with | true => (k (([] : qL), ([] : qL), 8)) | false => (if y61.2.2.1 * 1 <= y61.2.2.2.length then (k ((zK (y61.2.2.2.take (y61.2.2.1 * 1)) 1 y61.2.2.1), y61.1, 0)) else none)) | none => none)) | none => none) | none => none) | none => none)) | none => none)))) | none => none)) | none => none)
abbrev zqW (N : Nat) (x : qL × qL × Int) : Option (qL × qL × Int) := (zdU N).d x
def JT (N : Nat) : List (Nat × LSpec) := [(18, Zs N), (30, jw N), (42, Zt N)]
def zbg : Code := Tryd.f31.body.getD .skip
theorem zmp (N : Nat) : Par (Zt N).b := by
 intro x α β kn ke kn' ke' r r' h h1 h2
 revert h
 dsimp only [Zt]
 (repeat' (first | (with_reducible refine ze ?_ ?_) | split)) <;> intro h <;> first | exact h1 _ h | exact h2 _ h | cases h
theorem zjZ (N : Nat) : Z3 (JQ qP [40, 43, 100, 146]) (zqX N) jh N (JT N) 42 zbg (Zt N) := λ x α kn ke => by kernel_rfl
theorem zj1 (N : Nat) : ZB qP jh N (JT N) 42 (zb 42 zbg) :=
 zD (zL qP [40, 43, 100, 146]) (zh _) zk jh N (JT N) 42 zbg (l := []) (by kernel_rfl) (by kernel_rfl) an (Zt N) rfl (λ s x hc h => by dsimp only [Zt] at h; exact zG hc h (λ _ _ => rfl) rfl rfl rfl) (λ _ => rfl) (zjZ N) (zmp N)
theorem zmo (N : Nat) : Par (jw N).b := by
 intro x α β kn ke kn' ke' r r' h h1 h2
 revert h
 dsimp only [jw]
 (repeat' (first | (with_reducible refine ze ?_ ?_) | split)) <;> intro h <;> first | exact h1 _ h | exact h2 _ h | cases h
theorem zjY (N : Nat) : zlz (JQ qP [40, 43, 100, 146]) (zqX N) jh N (JT N) 30 zbg (jw N) := λ x α kn ke => by kernel_rfl
theorem zel (N : Nat) : ZB qP jh N (JT N) 30 (zb 30 zbg) :=
 j5 (zL qP [40, 43, 100, 146]) (zh _) zk jh N (JT N) 30 zbg (l := []) (by kernel_rfl) an (jw N) rfl (λ s x hc h => by dsimp only [jw] at h; exact za9 hc h (λ _ _ _ _ => rfl) rfl rfl) (zjY N) (zmo N)
theorem zmn (N : Nat) : Par (Zs N).b := by
 intro x α β kn ke kn' ke' r r' h h1 h2
 revert h
 dsimp only [Zs]
 (repeat' (first | (with_reducible refine ze ?_ ?_) | split)) <;> intro h <;> first | exact h1 _ h | exact h2 _ h | cases h
theorem zjX (N : Nat) : Z3 (JQ qP [40, 43, 100, 146]) (zqX N) jh N (JT N) 18 zbg (Zs N) := λ x α kn ke => by kernel_rfl
theorem zj0 (N : Nat) : ZB qP jh N (JT N) 18 (zb 18 zbg) :=
 zD (zL qP [40, 43, 100, 146]) (zh _) zk jh N (JT N) 18 zbg (l := [(30, zb 30 zbg)]) (by kernel_rfl) (by kernel_rfl) (al (zel N) an) (Zs N) rfl (λ s x hc h => by dsimp only [Zs] at h; exact za9 hc h (λ _ _ _ _ => rfl) rfl rfl) (λ _ => rfl) (zjX N) (zmn N)
theorem zqY (N : Nat) : Zd (zdU N).t := by
 intro x α β k k' r r' h h1
 revert h
 dsimp only [zdU]
 (repeat' (first | (with_reducible refine ze ?_ ?_) | split)) <;> intro h <;> first | exact h1 _ h | cases h
theorem zqZ (N : Nat) : Zg (JQ qP [40, 43, 100, 146]) (zqX N) jh (lam N (JT N)) Tryd.f31 (zdU N) := λ x => by kernel_rfl
theorem zxr (N : Nat) (a : List AV) (b : qL) (x : (zdU N).X) (h : (zdU N).pat a b = some x) : a = (zdU N).args x /\ b = (zdU N).bs x := by
 obtain ⟨v1, c2, rfl, g0⟩ := zd (show zl _ _ = some x from h)
 obtain ⟨c3, rfl, g1⟩ := zW g0; clear g0
 obtain ⟨c4, c5, rfl, g2⟩ := zd g1; clear g1
 obtain ⟨a0, rfl, g3⟩ := zr g2; clear g2
 obtain ⟨rfl, g4⟩ := zi g3; clear g3
 obtain ⟨v6, c7, rfl, g5⟩ := zd g4; clear g4
 obtain ⟨a1, rfl, g6⟩ := zr g5; clear g5
 obtain ⟨v8, c9, rfl, g7⟩ := zd g6; clear g6
 obtain ⟨a2, rfl, g8⟩ := zJ g7; clear g7
 obtain ⟨rfl, g9⟩ := zi g8; clear g8
 obtain ⟨rfl, g10⟩ := zi g9; clear g9
 clear h
 cases g10
 exact ⟨rfl, rfl⟩
def zCO (N : Nat) : Ent qP := zA (zL qP [40, 43, 100, 146]) (zh _) zk 31 Tryd.f31 Tryd.func31 rfl jh (lam N (JT N)) (zm (l := [(18, zb 18 zbg), (30, zb 30 zbg), (42, zb 42 zbg)]) (al (zj0 N) (al (zel N) (al (zj1 N) an))) (by kernel_rfl)) (zdU N) (λ _ => ⟨rfl, rfl⟩) (zqZ N) (zxr N) (zqY N)
end
end Go.Proofs.YthdgnfcbehcplaaDoor
end
section
namespace Go.Proofs.YthdgnfcbehcplaaDoor
noncomputable section
open Go.RowKit
set_option maxRecDepth 4000
set_option maxHeartbeats 4000000
def zwr : Nat -> Keep × Keep := anL []
def zDw (N : Nat) : GamK := gam (P := qP) [zzT N]
def zkH (N : Nat) : FSpec where
 X := RT0
 Y := Bool
 ash := [[none, none, none, none, none, none, none, none, none, some 9, none, none, none, none, none, none, none, none, none, none, none, none, none, none, none]]
 S := ⟨[[none]], [], [], [], []⟩
 pat := λ a b => rdA [.agg RK0] [] a b λ ⟨a0, _⟩ _ => a0
 args := λ x => [(AV.agg (zB x))]
 ret := λ y => ⟨(AV.v (.bool y)), [], none, [], [], [], none⟩
 t := λ x α k => (match zhp N ([(zB x)]) with | some y1 => (k y1) | none => none)
abbrev zn0 (N : Nat) (x : RT0) : Option (Bool) := (zkH N).d x
theorem zsG (N : Nat) : Zd (zkH N).t := by
 intro x α β k k' r r' h h1
 revert h
 dsimp only [zkH]
 (repeat' (first | (with_reducible refine ze ?_ ?_) | split)) <;> intro h <;> first | exact h1 _ h | cases h
theorem zsH (N : Nat) : Zg (zn qP) (zDw N) zwr (lam N []) Tryd.f72 (zkH N) := λ x => by kernel_rfl
def zAx (N : Nat) : Ent qP := zA (zc qP) (zh _) zk 72 Tryd.f72 Tryd.func72 rfl zwr (lam N []) (zm (l := []) an (by kernel_rfl)) (zkH N) (λ _ => ⟨rfl, rfl⟩) (zsH N) (λ _ _ _ h => zw h (λ _ _ => rfl) (λ _ _ => rfl)) (zsG N)
def zbK : Nat -> Keep × Keep := anL [(4, qK [0, 5, 6] [] [], qK [0, 2] [] [])]
def zAA (N : Nat) : GamK := gam (P := qP) []
def zcW (N : Nat) : LSpec where
 X := ByteArray × Int × Int
 Y := (ByteArray × Bool) ⊕ (ByteArray)
 p := λ s => rdS 28 0 [(0, .str), (5, .int .i64), (6, .int .i64)] [] s λ ⟨a0, a1, a2, _⟩ _ => (a0, a1, a2)
 st := λ u4 => mkS 28 [(0, (AV.v (.string u4.1))), (5, (qI u4.2.1)), (6, (qI u4.2.2))] [] (zbK 4).1.toks 0
 out := λ y => match y with
  | .inl y => (.ret, mkS 28 [(0, (AV.v (.string y.1))), (2, (AV.v (.bool y.2)))] [] (zbK 4).2.toks 0)
  | .inr y => (.exit 0, mkS 28 [(0, (AV.v (.string y)))] [] (zbK 4).2.toks 0)
 b := λ u4 α kn ke => (match (decide (u4.2.2 < u4.2.1)) with | true => (if 0 <= u4.2.2 then (match u4.1[u4.2.2.toNat]? with | some c1 => (match (decide ((c1.toNat : Int) < 97)) with | true => (ke (.inl (u4.1, false))) | false => (if 0 <= u4.2.2 then (match u4.1[u4.2.2.toNat]? with | some c2 => (match (decide ((c2.toNat : Int) > 122)) with | true => (ke (.inl (u4.1, false))) | false => (kn (u4.1, u4.2.1, (i64 (u4.2.2 + 1))))) | none => none) else none)) | none => none) else none) | false => (ke (.inr u4.1)))
abbrev zAy (N : Nat) (x : ByteArray × Int × Int) : Option ((ByteArray × Bool) ⊕ (ByteArray)) := (zcW N).L N x
def zn3 (N : Nat) : FSpec where
 X := ByteArray
 Y := Bool
 ash := [[none]]
 S := ⟨[[none]], [], [], [], []⟩
 pat := λ a b => rdA [.str] [] a b λ ⟨a0, _⟩ _ => a0
 args := λ x => [(AV.v (.string x))]
 ret := λ y => ⟨(AV.v (.bool y)), [], none, [], [], [], none⟩
 t := λ x α k => (match zAy N (x, (x.size : Int), 0) with | some y3 => (match y3 with | .inl z4 => (k z4.2) | .inr z5 => (match (decide ((z5.size : Int) >= 1)) with | true => (k (decide ((z5.size : Int) <= 16))) | false => (k false))) | none => none)
abbrev zsJ (N : Nat) (x : ByteArray) : Option (Bool) := (zn3 N).d x
def zgp (N : Nat) : List (Nat × LSpec) := [(4, zcW N)]
def zsI : Code := Tryd.f73.body.getD .skip
theorem zsK (N : Nat) : Par (zcW N).b := by
 intro x α β kn ke kn' ke' r r' h h1 h2
 revert h
 dsimp only [zcW]
 (repeat' (first | (with_reducible refine ze ?_ ?_) | split)) <;> intro h <;> first | exact h1 _ h | exact h2 _ h | cases h
theorem zn1 (N : Nat) : Z3 (zn qP) (zAA N) zbK N (zgp N) 4 zsI (zcW N) := λ x α kn ke => by kernel_rfl
theorem zn2 (N : Nat) : ZB qP zbK N (zgp N) 4 (zb 4 zsI) :=
 zD (zc qP) (zh _) zk zbK N (zgp N) 4 zsI (l := []) (by kernel_rfl) (by kernel_rfl) an (zcW N) rfl (λ s x hc h => by dsimp only [zcW] at h; exact zG hc h (λ _ _ => rfl) rfl rfl rfl) (λ _ => rfl) (zn1 N) (zsK N)
theorem zsL (N : Nat) : Zd (zn3 N).t := by
 intro x α β k k' r r' h h1
 revert h
 dsimp only [zn3]
 (repeat' (first | (with_reducible refine ze ?_ ?_) | split)) <;> intro h <;> first | exact h1 _ h | cases h
theorem zsM (N : Nat) : Zg (zn qP) (zAA N) zbK (lam N (zgp N)) Tryd.f73 (zn3 N) := λ x => by kernel_rfl
def zAz (N : Nat) : Ent qP := zA (zc qP) (zh _) zk 73 Tryd.f73 Tryd.func73 rfl zbK (lam N (zgp N)) (zm (l := [(4, zb 4 zsI)]) (al (zn2 N) an) (by kernel_rfl)) (zn3 N) (λ _ => ⟨rfl, rfl⟩) (zsM N) (λ _ _ _ h => zw h (λ _ _ => rfl) (λ _ _ => rfl)) (zsL N)
def zv1 : Nat -> Keep × Keep := anL []
def zC5 (N : Nat) : GamK := gam (P := qP) [zAx N, zAz N]
def zkj (N : Nat) : FSpec where
 X := RT7 × Int × Int
 Y := Bool
 ash := [[none, none, none, none, none, none, none, none, none, none, none, none, none, some 9, none, none, none, none, none, none, none, none, none, none, none, none, none, none, none], [none], [none]]
 S := ⟨[[none]], [], [], [], []⟩
 pat := λ a b => rdA [.agg RK7, .int .i64, .int .i64] [] a b λ ⟨a0, a1, a2, _⟩ _ => (a0, a1, a2)
 args := λ x => [(AV.agg (zQ x.1)), (AV.v (.int .i64 x.2.1)), (AV.v (.int .i64 x.2.2))]
 ret := λ y => ⟨(AV.v (.bool y)), [], none, [], [], [], none⟩
 t := λ x α k => (match (decide (x.1.1 < 1)) with | true => (k false) | false => (match (decide (x.1.1 > 6)) with | true => (k false) | false => (match (decide (x.1.2.1 < 0)) with | true => (k false) | false => (match (decide (x.1.2.1 > 18014398509481984)) with | true => (k false) | false => (match zn0 N (zx x.1) with | some y1 => (match (!y1) with | true => (k false) | false => (if 0 <= x.1.1 /\ x.1.1 < 7 then (match ((gtab3.map AV.v).drop (x.1.1.toNat * 1))[0]? with | some x2 => (match x2 with | .v (.bool b3) => (match b3 with | true => (match (!(x.1.2.2.1.toList == (⟨#[]⟩ : ByteArray).toList)) with | true => (k false) | false => (if 0 <= x.1.1 /\ x.1.1 < 7 then (match ((gtab3.map AV.v).drop (x.1.1.toNat * 1))[0]? with | some x4 => (match x4 with | .v (.bool b5) => (match (!b5) with | true => (match zsJ N x.1.2.2.1 with | some y6 => (match (!y6) with | true => (k false) | false => (match (x.1.1 == 5) with | true => (match (decide (x.1.2.2.2.1 >= 0)) with | true => (match (decide (x.1.2.2.2.1 < x.2.2)) with | true => (k (x.1.2.2.2.1 != x.2.1)) | false => (k false)) | false => (k false)) | false => (k (x.1.2.2.2.1 == 0)))) | none => none) | false => (match (x.1.1 == 5) with | true => (match (decide (x.1.2.2.2.1 >= 0)) with | true => (match (decide (x.1.2.2.2.1 < x.2.2)) with | true => (k (x.1.2.2.2.1 != x.2.1)) | false => (k false)) | false => (k false)) | false => (k (x.1.2.2.2.1 == 0)))) | _ => none) | none => none) else none)) | false => (if 0 <= x.1.1 /\ x.1.1 < 7 then (match ((gtab3.map AV.v).drop (x.1.1.toNat * 1))[0]? with | some x7 => (match x7 with | .v (.bool b8) => (match (!b8) with | true => (match zsJ N x.1.2.2.1 with | some y9 => (match (!y9) with | true => (k false) | false => (match (x.1.1 == 5) with | true => (match (decide (x.1.2.2.2.1 >= 0)) with | true => (match (decide (x.1.2.2.2.1 < x.2.2)) with | true => (k (x.1.2.2.2.1 != x.2.1)) | false => (k false)) | false => (k false)) | false => (k (x.1.2.2.2.1 == 0)))) | none => none) | false => (match (x.1.1 == 5) with | true => (match (decide (x.1.2.2.2.1 >= 0)) with | true => (match (decide (x.1.2.2.2.1 < x.2.2)) with | true => (k (x.1.2.2.2.1 != x.2.1)) | false => (k false)) | false => (k false)) | false => (k (x.1.2.2.2.1 == 0)))) | _ => none) | none => none) else none)) | _ => none) | none => none) else none)) | none => none)))))
abbrev zxD (N : Nat) (x : RT7 × Int × Int) : Option (Bool) := (zkj N).d x
theorem zrF (N : Nat) : Zd (zkj N).t := by
 intro x α β k k' r r' h h1
 revert h
 dsimp only [zkj]
 (repeat' (first | (with_reducible refine ze ?_ ?_) | split)) <;> intro h <;> first | exact h1 _ h | cases h
theorem zrG (N : Nat) : Zg (zn qP) (zC5 N) zv1 (lam N []) Tryd.f48 (zkj N) := λ x => by kernel_rfl
def zC4 (N : Nat) : Ent qP := zA (zc qP) (zh _) zk 48 Tryd.f48 Tryd.func48 rfl zv1 (lam N []) (zm (l := []) an (by kernel_rfl)) (zkj N) (λ _ => ⟨rfl, rfl⟩) (zrG N) (λ _ _ _ h => zw h (λ _ _ => rfl) (λ _ _ => rfl)) (zrF N)
def zvS : Nat -> Keep × Keep := anL []
def zCS (N : Nat) : GamK := gam (P := qP) [zDf N]
def zj8 (N : Nat) : FSpec where
 X := RT0 × RT0
 Y := Bool
 ash := [[none, none, none, none, none, none, none, none, none, some 9, none, none, none, none, none, none, none, none, none, none, none, none, none, none, none], [none, none, none, none, none, none, none, none, none, some 9, none, none, none, none, none, none, none, none, none, none, none, none, none, none, none]]
 S := ⟨[[none]], [], [], [], []⟩
 pat := λ a b => rdA [.agg RK0, .agg RK0] [] a b λ ⟨a0, a1, _⟩ _ => (a0, a1)
 args := λ x => [(AV.agg (zB x.1)), (AV.agg (zB x.2))]
 ret := λ y => ⟨(AV.v (.bool y)), [], none, [], [], [], none⟩
 t := λ x α k => (match zAu N ([(zB x.1)], [(zB x.2)]) with | some y1 => (k y1) | none => none)
abbrev zj7 (N : Nat) (x : RT0 × RT0) : Option (Bool) := (zj8 N).d x
theorem zrd (N : Nat) : Zd (zj8 N).t := by
 intro x α β k k' r r' h h1
 revert h
 dsimp only [zj8]
 (repeat' (first | (with_reducible refine ze ?_ ?_) | split)) <;> intro h <;> first | exact h1 _ h | cases h
theorem zre (N : Nat) : Zg (zn qP) (zCS N) zvS (lam N []) Tryd.f38 (zj8 N) := λ x => by kernel_rfl
def zzW (N : Nat) : Ent qP := zA (zc qP) (zh _) zk 38 Tryd.f38 Tryd.func38 rfl zvS (lam N []) (zm (l := []) an (by kernel_rfl)) (zj8 N) (λ _ => ⟨rfl, rfl⟩) (zre N) (λ _ _ _ h => zw h (λ _ _ => rfl) (λ _ _ => rfl)) (zrd N)
def j6 : Nat -> Keep × Keep := anL [(8, ⟨[1, 14, 15], [], [1], [(13, 1)], [], [], [], [], false, none, []⟩, qK [2] [] []), (21, ⟨[1, 3, 4, 14, 15, 40, 41], [], [1, 4], [(13, 1), (39, 29)], [], [], [], [], false, none, []⟩, ⟨[1, 2, 14, 15], [], [1], [(13, 1)], [], [], [], [], false, none, []⟩)]
def zxd (N : Nat) : GamK := gam (P := qP) [zC4 N, zzW N]
def ZN (N : Nat) : LSpec where
 X := qL × qL × Int × Int × Int × Int × Int × qL × qL
 Y := (qL × Bool × Int × Int × qL) ⊕ (qL × Int × Int × qL)
 p := λ s => rdS 92 0 [(13, .lst 1), (39, .lst 29), (1, .ptr 1 0), (3, .int .i64), (4, .ptr 4 0), (14, .int .i64), (15, .int .i64), (40, .int .i64), (41, .int .i64)] [(1, .cells [.lst 1]), (4, .cells [.lst 29])] s λ ⟨a0, a1, _, a2, _, a3, a4, a5, a6, _⟩ ⟨⟨a7, _⟩, ⟨a8, _⟩, _⟩ => (a0, a1, a2, a3, a4, a5, a6, a7, a8)
 st := λ u21 => mkS 92 [(13, (AV.list 1 u21.1 none)), (39, (AV.list 29 u21.2.1 none)), (1, (AV.ptr 1 0)), (3, (qI u21.2.2.1)), (4, (AV.ptr 4 0)), (14, (qI u21.2.2.2.1)), (15, (qI u21.2.2.2.2.1)), (40, (qI u21.2.2.2.2.2.1)), (41, (qI u21.2.2.2.2.2.2.1))] [(1, [(AV.list 1 u21.2.2.2.2.2.2.2.1 none)]), (4, [(AV.list 29 u21.2.2.2.2.2.2.2.2 none)])] (j6 21).1.toks 0
 out := λ y => match y with
  | .inl y => (.ret, mkS 92 [(13, (AV.list 1 y.1 none)), (1, (AV.ptr 1 0)), (2, (AV.v (.bool y.2.1))), (14, (qI y.2.2.1)), (15, (qI y.2.2.2.1))] [(1, [(AV.list 1 y.2.2.2.2 none)])] (j6 21).2.toks 0)
  | .inr y => (.exit 2, mkS 92 [(13, (AV.list 1 y.1 none)), (1, (AV.ptr 1 0)), (14, (qI y.2.1)), (15, (qI y.2.2.1))] [(1, [(AV.list 1 y.2.2.2 none)])] (j6 21).2.toks 0)
 b := λ u21 α kn ke => (match (decide (u21.2.2.2.2.2.2.1 < u21.2.2.2.2.2.1)) with | true => (if 0 <= u21.2.2.2.2.2.2.1 then (match u21.2.1[u21.2.2.2.2.2.2.1.toNat]? with | some c17 => (match zkY c17 with | some e18 => (match zxD N (e18, u21.2.2.1, (u21.2.2.2.2.2.2.2.1.length : Int)) with | some y19 => (match (!y19) with | true => (ke (.inl (u21.1, false, u21.2.2.2.1, u21.2.2.2.2.1, u21.2.2.2.2.2.2.2.1))) | false => (match (u21.2.2.2.2.2.2.1 == 0) with | true => (kn (u21.1, u21.2.1, u21.2.2.1, u21.2.2.2.1, u21.2.2.2.2.1, u21.2.2.2.2.2.1, (i64 (u21.2.2.2.2.2.2.1 + 1)), u21.2.2.2.2.2.2.2)) | false => (if 0 <= (i64 (u21.2.2.2.2.2.2.1 - 1)) then (match u21.2.2.2.2.2.2.2.2[(i64 (u21.2.2.2.2.2.2.1 - 1)).toNat]? with | some c20 => (match zkY c20 with | some e21 => (match (decide (e18.2.1 < e21.2.1)) with | true => (ke (.inl (u21.1, false, u21.2.2.2.1, u21.2.2.2.2.1, u21.2.2.2.2.2.2.2.1))) | false => (if 0 <= e18.1 /\ e18.1 < 7 then (if 0 <= e21.1 /\ e21.1 < 7 then (match (((gtab1.map AV.v).drop (e18.1.toNat * 7)).drop (e21.1.toNat * 1))[0]? with | some x22 => (match x22 with | .v (.bool b23) => (match (!b23) with | true => (ke (.inl (u21.1, false, u21.2.2.2.1, u21.2.2.2.2.1, u21.2.2.2.2.2.2.2.1))) | false => (if 0 <= e18.1 /\ e18.1 < 7 then (match ((gtab2.map AV.v).drop (e18.1.toNat * 1))[0]? with | some x24 => (match x24 with | .v (.bool b25) => (match b25 with | true => (match zj7 N ((zx e18), (zx e21)) with | some y26 => (match (!y26) with | true => (ke (.inl (u21.1, false, u21.2.2.2.1, u21.2.2.2.2.1, u21.2.2.2.2.2.2.2.1))) | false => (kn (u21.1, u21.2.1, u21.2.2.1, u21.2.2.2.1, u21.2.2.2.2.1, u21.2.2.2.2.2.1, (i64 (u21.2.2.2.2.2.2.1 + 1)), u21.2.2.2.2.2.2.2))) | none => none) | false => (kn (u21.1, u21.2.1, u21.2.2.1, u21.2.2.2.1, u21.2.2.2.2.1, u21.2.2.2.2.2.1, (i64 (u21.2.2.2.2.2.2.1 + 1)), u21.2.2.2.2.2.2.2))) | _ => none) | none => none) else none)) | _ => none) | none => none) else none) else none)) | none => none) | none => none) else none))) | none => none) | none => none) | none => none) else none) | false => (ke (.inr (u21.1, u21.2.2.2.1, u21.2.2.2.2.1, u21.2.2.2.2.2.2.2.1))))
abbrev zl5 (N : Nat) (x : qL × qL × Int × Int × Int × Int × Int × qL × qL) : Option ((qL × Bool × Int × Int × qL) ⊕ (qL × Int × Int × qL)) := (ZN N).L N x
def jC (N : Nat) : LSpec where
 X := qL × Int × Int × qL
 Y := (Bool) ⊕ (Unit)
 p := λ s => rdS 92 0 [(13, .lst 1), (1, .ptr 1 0), (14, .int .i64), (15, .int .i64)] [(1, .cells [.lst 1])] s λ ⟨a0, _, a1, a2, _⟩ ⟨⟨a3, _⟩, _⟩ => (a0, a1, a2, a3)
 st := λ u8 => mkS 92 [(13, (AV.list 1 u8.1 none)), (1, (AV.ptr 1 0)), (14, (qI u8.2.1)), (15, (qI u8.2.2.1))] [(1, [(AV.list 1 u8.2.2.2 none)])] (j6 8).1.toks 0
 out := λ y => match y with
  | .inl y => (.ret, mkS 92 [(2, (AV.v (.bool y)))] [] (j6 8).2.toks 0)
  | .inr y => (.exit 0, mkS 92 [] [] (j6 8).2.toks 0)
 b := λ u8 α kn ke => (match (decide (u8.2.2.1 < u8.2.1)) with | true => (if 0 <= u8.2.2.1 then (match u8.1[u8.2.2.1.toNat]? with | some c1 => (match zdO c1 with | some e2 => (match (decide ((e2.1.length : Int) < 1)) with | true => (ke (.inl false)) | false => (match (decide ((e2.1.length : Int) > 100)) with | true => (ke (.inl false)) | false => (if 0 <= (0 : Int) then (match e2.1[(0 : Int).toNat]? with | some c3 => (match (c3.drop 0)[0]? with | some x4 => (match x4 with | .v (.int q6 n5) => (if q6 = .i64 then (match (n5 != 1) with | true => (ke (.inl false)) | false => (match zl5 N (u8.1, e2.1, u8.2.2.1, u8.2.1, u8.2.2.1, (e2.1.length : Int), 0, u8.2.2.2, e2.1) with | some y27 => (match y27 with | .inl z28 => (ke (.inl z28.2.1)) | .inr z29 => (kn (z29.1, z29.2.1, (i64 (z29.2.2.1 + 1)), z29.2.2.2))) | none => none)) else none) | _ => none) | none => none) | none => none) else none))) | none => none) | none => none) else none) | false => (ke (.inr ())))
abbrev zvz (N : Nat) (x : qL × Int × Int × qL) : Option ((Bool) ⊕ (Unit)) := (jC N).L N x
def zdS (N : Nat) : FSpec where
 X := qL
 Y := Bool
 ash := [[some 1]]
 S := ⟨[[none]], [], [], [], []⟩
 pat := λ a b => zl a λ v1 c2 => jA v1 λ c3 => zl c3 λ c4 c5 => jg 1 c4 λ a0 => zV c5 <| zV c2 <| zV b <| some a0
 args := λ x => [(AV.agg [(AV.list 1 x none)])]
 ret := λ y => ⟨(AV.v (.bool y)), [], none, [], [], [], none⟩
 t := λ x α k => (match (decide ((x.length : Int) > 500)) with | true => (k false) | false => (match zvz N (x, (x.length : Int), 0, x) with | some y30 => (match y30 with | .inl z31 => (k z31) | .inr z32 => (k true)) | none => none))
abbrev zjO (N : Nat) (x : qL) : Option (Bool) := (zdS N).d x
def zbz (N : Nat) : List (Nat × LSpec) := [(8, jC N), (21, ZN N)]
def zeZ : Code := Tryd.f14.body.getD .skip
theorem zl7 (N : Nat) : Par (ZN N).b := by
 intro x α β kn ke kn' ke' r r' h h1 h2
 revert h
 dsimp only [ZN]
 (repeat' (first | (with_reducible refine ze ?_ ?_) | split)) <;> intro h <;> first | exact h1 _ h | exact h2 _ h | cases h
theorem zjN (N : Nat) : Z3 (zn qP) (zxd N) j6 N (zbz N) 21 zeZ (ZN N) := λ x α kn ke => by kernel_rfl
theorem zek (N : Nat) : ZB qP j6 N (zbz N) 21 (zb 21 zeZ) :=
 zD (zc qP) (zh _) zk j6 N (zbz N) 21 zeZ (l := []) (by kernel_rfl) (by kernel_rfl) an (ZN N) rfl (λ s x hc h => by dsimp only [ZN] at h; exact zG hc h (λ _ _ => rfl) rfl rfl rfl) (λ _ => rfl) (zjN N) (zl7 N)
theorem zqs (N : Nat) : Par (jC N).b := by
 intro x α β kn ke kn' ke' r r' h h1 h2
 revert h
 dsimp only [jC]
 (repeat' (first | (with_reducible refine ze ?_ ?_) | split)) <;> intro h <;> first | exact h1 _ h | exact h2 _ h | cases h
theorem zl4 (N : Nat) : Z3 (zn qP) (zxd N) j6 N (zbz N) 8 zeZ (jC N) := λ x α kn ke => by kernel_rfl
theorem zl6 (N : Nat) : ZB qP j6 N (zbz N) 8 (zb 8 zeZ) :=
 zD (zc qP) (zh _) zk j6 N (zbz N) 8 zeZ (l := [(21, zb 21 zeZ)]) (by kernel_rfl) (by kernel_rfl) (al (zek N) an) (jC N) rfl (λ s x hc h => by dsimp only [jC] at h; exact zG hc h (λ _ _ => rfl) rfl rfl rfl) (λ _ => rfl) (zl4 N) (zqs N)
theorem zqt (N : Nat) : Zd (zdS N).t := by
 intro x α β k k' r r' h h1
 revert h
 dsimp only [zdS]
 (repeat' (first | (with_reducible refine ze ?_ ?_) | split)) <;> intro h <;> first | exact h1 _ h | cases h
theorem zqu (N : Nat) : Zg (zn qP) (zxd N) j6 (lam N (zbz N)) Tryd.f14 (zdS N) := λ x => by kernel_rfl
theorem zxe (N : Nat) (a : List AV) (b : qL) (x : (zdS N).X) (h : (zdS N).pat a b = some x) : a = (zdS N).args x /\ b = (zdS N).bs x := by
 obtain ⟨v1, c2, rfl, g0⟩ := zd (show zl _ _ = some x from h)
 obtain ⟨c3, rfl, g1⟩ := zW g0; clear g0
 obtain ⟨c4, c5, rfl, g2⟩ := zd g1; clear g1
 obtain ⟨a0, rfl, g3⟩ := zr g2; clear g2
 obtain ⟨rfl, g4⟩ := zi g3; clear g3
 obtain ⟨rfl, g5⟩ := zi g4; clear g4
 obtain ⟨rfl, g6⟩ := zi g5; clear g5
 clear h
 cases g6
 exact ⟨rfl, rfl⟩
def zqr (N : Nat) : Ent qP := zA (zc qP) (zh _) zk 14 Tryd.f14 Tryd.func14 rfl j6 (lam N (zbz N)) (zm (l := [(8, zb 8 zeZ), (21, zb 21 zeZ)]) (al (zl6 N) (al (zek N) an)) (by kernel_rfl)) (zdS N) (λ _ => ⟨rfl, rfl⟩) (zqu N) (zxe N) (zqt N)
def JH : Nat -> Keep × Keep := anL [(5, ⟨[3, 10, 11], [], [], [(9, 1)], [], [], [], [], false, none, []⟩, qK [3] [] []), (14, ⟨[3, 10, 11, 17, 18], [], [], [(9, 1), (16, 29)], [], [], [], [], false, none, []⟩, ⟨[3, 10, 11], [], [], [(9, 1)], [], [], [], [], false, none, []⟩)]
def zxR (N : Nat) : GamK := gam (P := qP) []
def ZT (N : Nat) : LSpec where
 X := qL × qL × Int × Int × Int × Int × Int
 Y := (qL × Int × Int × Int)
 p := λ s => rdS 29 0 [(9, .lst 1), (16, .lst 29), (3, .int .i64), (10, .int .i64), (11, .int .i64), (17, .int .i64), (18, .int .i64)] [] s λ ⟨a0, a1, a2, a3, a4, a5, a6, _⟩ _ => (a0, a1, a2, a3, a4, a5, a6)
 st := λ u14 => mkS 29 [(9, (AV.list 1 u14.1 none)), (16, (AV.list 29 u14.2.1 none)), (3, (qI u14.2.2.1)), (10, (qI u14.2.2.2.1)), (11, (qI u14.2.2.2.2.1)), (17, (qI u14.2.2.2.2.2.1)), (18, (qI u14.2.2.2.2.2.2))] [] (JH 14).1.toks 0
 out := λ y => (.exit 2, mkS 29 [(9, (AV.list 1 y.1 none)), (3, (qI y.2.1)), (10, (qI y.2.2.1)), (11, (qI y.2.2.2))] [] (JH 14).2.toks 0)
 b := λ u14 α kn ke => (match (decide (u14.2.2.2.2.2.2 < u14.2.2.2.2.2.1)) with | true => (if 0 <= u14.2.2.2.2.2.2 then (match u14.2.1[u14.2.2.2.2.2.2.toNat]? with | some c3 => (match zkY c3 with | some e4 => (kn (u14.1, u14.2.1, (if e4.2.1 > u14.2.2.1 then e4.2.1 else u14.2.2.1), u14.2.2.2.1, u14.2.2.2.2.1, u14.2.2.2.2.2.1, (i64 (u14.2.2.2.2.2.2 + 1)))) | none => none) | none => none) else none) | false => (ke (u14.1, u14.2.2.1, u14.2.2.2.1, u14.2.2.2.2.1)))
abbrev znV (N : Nat) (x : qL × qL × Int × Int × Int × Int × Int) : Option ((qL × Int × Int × Int)) := (ZT N).L N x
def jJ (N : Nat) : LSpec where
 X := qL × Int × Int × Int
 Y := (Int)
 p := λ s => rdS 29 0 [(9, .lst 1), (3, .int .i64), (10, .int .i64), (11, .int .i64)] [] s λ ⟨a0, a1, a2, a3, _⟩ _ => (a0, a1, a2, a3)
 st := λ u5 => mkS 29 [(9, (AV.list 1 u5.1 none)), (3, (qI u5.2.1)), (10, (qI u5.2.2.1)), (11, (qI u5.2.2.2))] [] (JH 5).1.toks 0
 out := λ y => (.exit 0, mkS 29 [(3, (qI y))] [] (JH 5).2.toks 0)
 b := λ u5 α kn ke => (match (decide (u5.2.2.2 < u5.2.2.1)) with | true => (if 0 <= u5.2.2.2 then (match u5.1[u5.2.2.2.toNat]? with | some c1 => (match zdO c1 with | some e2 => (match znV N (u5.1, e2.1, u5.2.1, u5.2.2.1, u5.2.2.2, (e2.1.length : Int), 0) with | some y5 => (kn (y5.1, y5.2.1, y5.2.2.1, (i64 (y5.2.2.2 + 1)))) | none => none) | none => none) | none => none) else none) | false => (ke u5.2.1))
abbrev zwj (N : Nat) (x : qL × Int × Int × Int) : Option ((Int)) := (jJ N).L N x
def zd3 (N : Nat) : FSpec where
 X := qL
 Y := Int
 ash := [[some 1]]
 S := ⟨[[none]], [], [], [], []⟩
 pat := λ a b => zl a λ v1 c2 => jA v1 λ c3 => zl c3 λ c4 c5 => jg 1 c4 λ a0 => zV c5 <| zV c2 <| zV b <| some a0
 args := λ x => [(AV.agg [(AV.list 1 x none)])]
 ret := λ y => ⟨(AV.v (.int .i64 y)), [], none, [], [], [], none⟩
 t := λ x α k => (match zwj N (x, 0, (x.length : Int), 0) with | some y6 => (k y6) | none => none)
abbrev zAt (N : Nat) (x : qL) : Option (Int) := (zd3 N).d x
def zbJ (N : Nat) : List (Nat × LSpec) := [(5, jJ N), (14, ZT N)]
def zff : Code := Tryd.f64.body.getD .skip
theorem znX (N : Nat) : Par (ZT N).b := by
 intro x α β kn ke kn' ke' r r' h h1 h2
 revert h
 dsimp only [ZT]
 (repeat' (first | (with_reducible refine ze ?_ ?_) | split)) <;> intro h <;> first | exact h1 _ h | exact h2 _ h | cases h
theorem zkB (N : Nat) : Z3 (zn qP) (zxR N) JH N (zbJ N) 14 zff (ZT N) := λ x α kn ke => by kernel_rfl
theorem zet (N : Nat) : ZB qP JH N (zbJ N) 14 (zb 14 zff) :=
 zD (zc qP) (zh _) zk JH N (zbJ N) 14 zff (l := []) (by kernel_rfl) (by kernel_rfl) an (ZT N) rfl (λ s x hc h => by dsimp only [ZT] at h; exact zG hc h (λ _ _ => rfl) rfl rfl rfl) (λ _ => rfl) (zkB N) (znX N)
theorem zsn (N : Nat) : Par (jJ N).b := by
 intro x α β kn ke kn' ke' r r' h h1 h2
 revert h
 dsimp only [jJ]
 (repeat' (first | (with_reducible refine ze ?_ ?_) | split)) <;> intro h <;> first | exact h1 _ h | exact h2 _ h | cases h
theorem znU (N : Nat) : Z3 (zn qP) (zxR N) JH N (zbJ N) 5 zff (jJ N) := λ x α kn ke => by kernel_rfl
theorem znW (N : Nat) : ZB qP JH N (zbJ N) 5 (zb 5 zff) :=
 zD (zc qP) (zh _) zk JH N (zbJ N) 5 zff (l := [(14, zb 14 zff)]) (by kernel_rfl) (by kernel_rfl) (al (zet N) an) (jJ N) rfl (λ s x hc h => by dsimp only [jJ] at h; exact zG hc h (λ _ _ => rfl) rfl rfl rfl) (λ _ => rfl) (znU N) (zsn N)
theorem zso (N : Nat) : Zd (zd3 N).t := by
 intro x α β k k' r r' h h1
 revert h
 dsimp only [zd3]
 (repeat' (first | (with_reducible refine ze ?_ ?_) | split)) <;> intro h <;> first | exact h1 _ h | cases h
theorem zsp (N : Nat) : Zg (zn qP) (zxR N) JH (lam N (zbJ N)) Tryd.f64 (zd3 N) := λ x => by kernel_rfl
theorem zxS (N : Nat) (a : List AV) (b : qL) (x : (zd3 N).X) (h : (zd3 N).pat a b = some x) : a = (zd3 N).args x /\ b = (zd3 N).bs x := by
 obtain ⟨v1, c2, rfl, g0⟩ := zd (show zl _ _ = some x from h)
 obtain ⟨c3, rfl, g1⟩ := zW g0; clear g0
 obtain ⟨c4, c5, rfl, g2⟩ := zd g1; clear g1
 obtain ⟨a0, rfl, g3⟩ := zr g2; clear g2
 obtain ⟨rfl, g4⟩ := zi g3; clear g3
 obtain ⟨rfl, g5⟩ := zi g4; clear g4
 obtain ⟨rfl, g6⟩ := zi g5; clear g5
 clear h
 cases g6
 exact ⟨rfl, rfl⟩
def zDe (N : Nat) : Ent qP := zA (zc qP) (zh _) zk 64 Tryd.f64 Tryd.func64 rfl JH (lam N (zbJ N)) (zm (l := [(5, zb 5 zff), (14, zb 14 zff)]) (al (znW N) (al (zet N) an)) (by kernel_rfl)) (zd3 N) (λ _ => ⟨rfl, rfl⟩) (zsp N) (zxS N) (zso N)
def zvO : Nat -> Keep × Keep := anL []
def zCP (N : Nat) : GamK := gam (P := qP) [zDe N]
def zdV (N : Nat) : FSpec where
 X := qL × Int
 Y := Int
 ash := [[some 1], [none]]
 S := ⟨[[none]], [], [], [], []⟩
 pat := λ a b => zl a λ v1 c2 => jA v1 λ c3 => zl c3 λ c4 c5 => jg 1 c4 λ a0 => zV c5 <| zl c2 λ v6 c7 => Jo .i64 v6 λ a1 => zV c7 <| zV b <| some (a0, a1)
 args := λ x => [(AV.agg [(AV.list 1 x.1 none)]), (AV.v (.int .i64 x.2))]
 ret := λ y => ⟨(AV.v (.int .i64 y)), [], none, [], [], [], none⟩
 t := λ x α k => (match (decide (x.2 < 0)) with | true => (k 2) | false => (match (decide (x.2 > 18014398509481984)) with | true => (k 2) | false => (match zAt N x.1 with | some y1 => (match (decide (x.2 < y1)) with | true => (k 9) | false => (k 0)) | none => none)))
abbrev zq3 (N : Nat) (x : qL × Int) : Option (Int) := (zdV N).d x
theorem zq4 (N : Nat) : Zd (zdV N).t := by
 intro x α β k k' r r' h h1
 revert h
 dsimp only [zdV]
 (repeat' (first | (with_reducible refine ze ?_ ?_) | split)) <;> intro h <;> first | exact h1 _ h | cases h
theorem zq5 (N : Nat) : Zg (zn qP) (zCP N) zvO (lam N []) Tryd.f34 (zdV N) := λ x => by kernel_rfl
theorem zxu (N : Nat) (a : List AV) (b : qL) (x : (zdV N).X) (h : (zdV N).pat a b = some x) : a = (zdV N).args x /\ b = (zdV N).bs x := by
 obtain ⟨v1, c2, rfl, g0⟩ := zd (show zl _ _ = some x from h)
 obtain ⟨c3, rfl, g1⟩ := zW g0; clear g0
 obtain ⟨c4, c5, rfl, g2⟩ := zd g1; clear g1
 obtain ⟨a0, rfl, g3⟩ := zr g2; clear g2
 obtain ⟨rfl, g4⟩ := zi g3; clear g3
 obtain ⟨v6, c7, rfl, g5⟩ := zd g4; clear g4
 obtain ⟨a1, rfl, g6⟩ := zJ g5; clear g5
 obtain ⟨rfl, g7⟩ := zi g6; clear g6
 obtain ⟨rfl, g8⟩ := zi g7; clear g7
 clear h
 cases g8
 exact ⟨rfl, rfl⟩
def zzU (N : Nat) : Ent qP := zA (zc qP) (zh _) zk 34 Tryd.f34 Tryd.func34 rfl zvO (lam N []) (zm (l := []) an (by kernel_rfl)) (zdV N) (λ _ => ⟨rfl, rfl⟩) (zq5 N) (zxu N) (zq4 N)
def zwl : Nat -> Keep × Keep := anL []
def zDi (N : Nat) : GamK := gam (P := qP) []
def zkD (N : Nat) : FSpec where
 X := qL
 Y := qL
 ash := [[some 9]]
 S := ⟨[[some 2000009]], [], [], [], []⟩
 pat := λ a b => rdA [.lst 9] [] a b λ ⟨a0, _⟩ _ => a0
 args := λ x => [(AV.list 9 x none)]
 ret := λ y => ⟨(AV.list 9 y (some 2560000000)), [], none, [], [2560000000], [], none⟩
 t := λ x α k => (match x with | [] => (zwQ (k ([] : qL)) (if (([] : qL).length + x.length) * 104 <= zg then (k (([] : qL) ++ x)) else none)) | _ :: _ => (if (([] : qL).length + x.length) * 104 <= zg then (k (([] : qL) ++ x)) else none))
abbrev zss (N : Nat) (x : qL) : Option (qL) := (zkD N).d x
theorem zst (N : Nat) : Zd (zkD N).t := by
 intro x α β k k' r r' h h1
 revert h
 dsimp only [zkD]
 (repeat' (first | (with_reducible refine ze ?_ ?_) | (with_reducible refine zu3 ?_ ?_) | split)) <;> intro h <;> first | exact h1 _ h | cases h
theorem zsu (N : Nat) : Zg (zn qP) (zDi N) zwl (lam N []) Tryd.f66 (zkD N) := λ x => by kernel_rfl
def zDh (N : Nat) : Ent qP := zA (zc qP) (zh _) zk 66 Tryd.f66 Tryd.func66 rfl zwl (lam N []) (zm (l := []) an (by kernel_rfl)) (zkD N) (λ _ => ⟨rfl, rfl⟩) (zsu N) (λ _ _ _ h => zw h (λ _ _ => rfl) (λ _ _ => rfl)) (zst N)
def zvT : Nat -> Keep × Keep := anL []
def zCT (N : Nat) : GamK := gam (P := qP) [zDh N]
def zj9 (N : Nat) : FSpec where
 X := RT0
 Y := RT0
 ash := [[none, none, none, none, none, none, none, none, none, some 9, none, none, none, none, none, none, none, none, none, none, none, none, none, none, none]]
 S := ⟨[[none, none, none, none, none, none, none, none, none, some 9, none, none, none, none, none, none, none, none, none, none, none, none, none, none, none]], [], [], [], []⟩
 pat := λ a b => rdA [.agg RK0] [] a b λ ⟨a0, _⟩ _ => a0
 args := λ x => [(AV.agg (zB x))]
 ret := λ y => ⟨(AV.agg (zB y)), [], none, [], [], [], none⟩
 t := λ x α k => (match zss N x.2.2.2.2.2.2.2.2.2.1 with | some y1 => (k (x.1, x.2.1, x.2.2.1, x.2.2.2.1, x.2.2.2.2.1, x.2.2.2.2.2.1, x.2.2.2.2.2.2.1, x.2.2.2.2.2.2.2.1, x.2.2.2.2.2.2.2.2.1, y1, x.2.2.2.2.2.2.2.2.2.2)) | none => none)
abbrev zdW (N : Nat) (x : RT0) : Option (RT0) := (zj9 N).d x
theorem zrg (N : Nat) : Zd (zj9 N).t := by
 intro x α β k k' r r' h h1
 revert h
 dsimp only [zj9]
 (repeat' (first | (with_reducible refine ze ?_ ?_) | split)) <;> intro h <;> first | exact h1 _ h | cases h
theorem zrh (N : Nat) : Zg (zn qP) (zCT N) zvT (lam N []) Tryd.f39 (zj9 N) := λ x => by kernel_rfl
def zrf (N : Nat) : Ent qP := zA (zc qP) (zh _) zk 39 Tryd.f39 Tryd.func39 rfl zvT (lam N []) (zm (l := []) an (by kernel_rfl)) (zj9 N) (λ _ => ⟨rfl, rfl⟩) (zrh N) (λ _ _ _ h => zw h (λ _ _ => rfl) (λ _ _ => rfl)) (zrg N)
def zwE : Nat -> Keep × Keep := anL []
def zDU (N : Nat) : GamK := gam (P := qP) []
def zoF (N : Nat) : FSpec where
 X := Int × Int
 Y := Int × Int
 ash := [[none], [none]]
 S := ⟨[[none], [none]], [], [], [], []⟩
 pat := λ a b => rdA [.int .u64, .int .u64] [] a b λ ⟨a0, a1, _⟩ _ => (a0, a1)
 args := λ x => [(AV.v (.int .u64 x.1)), (AV.v (.int .u64 x.2))]
 ret := λ y => ⟨(AV.tup [(AV.v (.int .u64 y.1)), (AV.v (.int .u64 y.2))]), [], none, [], [], [], none⟩
 t := λ x α k => (k ((IntKind.u64.wrap ((IntKind.u64.wrap ((IntKind.u64.wrap ((shR .u64 x.1 (32 : Int)) * (shR .u64 x.2 (32 : Int)))) + (shR .u64 (IntKind.u64.wrap ((IntKind.u64.wrap ((shR .u64 x.1 (32 : Int)) * (zwN .u64 x.2 (4294967295 : Int)))) + (shR .u64 (IntKind.u64.wrap ((zwN .u64 x.1 (4294967295 : Int)) * (zwN .u64 x.2 (4294967295 : Int)))) (32 : Int)))) (32 : Int)))) + (shR .u64 (IntKind.u64.wrap ((zwN .u64 (IntKind.u64.wrap ((IntKind.u64.wrap ((shR .u64 x.1 (32 : Int)) * (zwN .u64 x.2 (4294967295 : Int)))) + (shR .u64 (IntKind.u64.wrap ((zwN .u64 x.1 (4294967295 : Int)) * (zwN .u64 x.2 (4294967295 : Int)))) (32 : Int)))) (4294967295 : Int)) + (IntKind.u64.wrap ((zwN .u64 x.1 (4294967295 : Int)) * (shR .u64 x.2 (32 : Int)))))) (32 : Int)))), (IntKind.u64.wrap (x.1 * x.2))))
abbrev zDS (N : Nat) (x : Int × Int) : Option (Int × Int) := (zoF N).d x
theorem ztL (N : Nat) : Zd (zoF N).t := by
 intro x α β k k' r r' h h1
 revert h
 dsimp only [zoF]
 (repeat' (first | (with_reducible refine ze ?_ ?_) | split)) <;> intro h <;> first | exact h1 _ h | cases h
theorem ztM (N : Nat) : Zg (zn qP) (zDU N) zwE (lam N []) Tryd.f93 (zoF N) := λ x => by kernel_rfl
def zDT (N : Nat) : Ent qP := zA (zc qP) (zh _) zk 93 Tryd.f93 Tryd.func93 rfl zwE (lam N []) (zm (l := []) an (by kernel_rfl)) (zoF N) (λ _ => ⟨rfl, rfl⟩) (ztM N) (λ _ _ _ h => zw h (λ _ _ => rfl) (λ _ _ => rfl)) (ztL N)
def zwn : Nat -> Keep × Keep := anL []
def zDo (N : Nat) : GamK := gam (P := qP) [zDT N]
def znZ (N : Nat) : FSpec where
 X := Int × Int
 Y := Int × Int
 ash := [[none], [none]]
 S := ⟨[[none], [none]], [], [], [], []⟩
 pat := λ a b => rdA [.int .u64, .int .u64] [] a b λ ⟨a0, a1, _⟩ _ => (a0, a1)
 args := λ x => [(AV.v (.int .u64 x.1)), (AV.v (.int .u64 x.2))]
 ret := λ y => ⟨(AV.tup [(AV.v (.int .u64 y.1)), (AV.v (.int .u64 y.2))]), [], none, [], [], [], none⟩
 t := λ x α k => (match zDS N x with | some y1 => (k y1) | none => none)
abbrev zDm (N : Nat) (x : Int × Int) : Option (Int × Int) := (znZ N).d x
theorem zsx (N : Nat) : Zd (znZ N).t := by
 intro x α β k k' r r' h h1
 revert h
 dsimp only [znZ]
 (repeat' (first | (with_reducible refine ze ?_ ?_) | split)) <;> intro h <;> first | exact h1 _ h | cases h
theorem zsy (N : Nat) : Zg (zn qP) (zDo N) zwn (lam N []) Tryd.f68 (znZ N) := λ x => by kernel_rfl
def zDn (N : Nat) : Ent qP := zA (zc qP) (zh _) zk 68 Tryd.f68 Tryd.func68 rfl zwn (lam N []) (zm (l := []) an (by kernel_rfl)) (znZ N) (λ _ => ⟨rfl, rfl⟩) (zsy N) (λ _ _ _ h => zw h (λ _ _ => rfl) (λ _ _ => rfl)) (zsx N)
def zvQ : Nat -> Keep × Keep := anL []
def zCQ (N : Nat) : GamK := gam (P := qP) []
def ze7 (N : Nat) : FSpec where
 X := qL
 Y := RT7
 ash := [[some 29]]
 S := ⟨[[none, none, none, none, none, none, none, none, none, none, none, none, none, some 9, none, none, none, none, none, none, none, none, none, none, none, none, none, none, none]], [], [], [], []⟩
 pat := λ a b => zl a λ v1 c2 => jA v1 λ c3 => zl c3 λ c4 c5 => jg 29 c4 λ a0 => zV c5 <| zV c2 <| zV b <| some a0
 args := λ x => [(AV.agg [(AV.list 29 x none)])]
 ret := λ y => ⟨(AV.agg (zQ y)), [], none, [], [], [], none⟩
 t := λ x α k => (if 0 <= (i64 ((x.length : Int) - 1)) then (match x[(i64 ((x.length : Int) - 1)).toNat]? with | some c1 => (match zkY c1 with | some e2 => (k e2) | none => none) | none => none) else none)
abbrev zmC (N : Nat) (x : qL) : Option (RT7) := (ze7 N).d x
theorem zq8 (N : Nat) : Zd (ze7 N).t := by
 intro x α β k k' r r' h h1
 revert h
 dsimp only [ze7]
 (repeat' (first | (with_reducible refine ze ?_ ?_) | split)) <;> intro h <;> first | exact h1 _ h | cases h
theorem zq9 (N : Nat) : Zg (zn qP) (zCQ N) zvQ (lam N []) Tryd.f36 (ze7 N) := λ x => by kernel_rfl
theorem zxv (N : Nat) (a : List AV) (b : qL) (x : (ze7 N).X) (h : (ze7 N).pat a b = some x) : a = (ze7 N).args x /\ b = (ze7 N).bs x := by
 obtain ⟨v1, c2, rfl, g0⟩ := zd (show zl _ _ = some x from h)
 obtain ⟨c3, rfl, g1⟩ := zW g0; clear g0
 obtain ⟨c4, c5, rfl, g2⟩ := zd g1; clear g1
 obtain ⟨a0, rfl, g3⟩ := zr g2; clear g2
 obtain ⟨rfl, g4⟩ := zi g3; clear g3
 obtain ⟨rfl, g5⟩ := zi g4; clear g4
 obtain ⟨rfl, g6⟩ := zi g5; clear g5
 clear h
 cases g6
 exact ⟨rfl, rfl⟩
def zq7 (N : Nat) : Ent qP := zA (zc qP) (zh _) zk 36 Tryd.f36 Tryd.func36 rfl zvQ (lam N []) (zm (l := []) an (by kernel_rfl)) (ze7 N) (λ _ => ⟨rfl, rfl⟩) (zq9 N) (zxv N) (zq8 N)
def zvZ : Nat -> Keep × Keep := anL []
def zC1 (N : Nat) : GamK := gam (P := qP) []
def zm1 (N : Nat) : FSpec where
 X := RT0 × RT0
 Y := Bool
 ash := [[none, none, none, none, none, none, none, none, none, some 9, none, none, none, none, none, none, none, none, none, none, none, none, none, none, none], [none, none, none, none, none, none, none, none, none, some 9, none, none, none, none, none, none, none, none, none, none, none, none, none, none, none]]
 S := ⟨[[none]], [], [], [], []⟩
 pat := λ a b => rdA [.agg RK0, .agg RK0] [] a b λ ⟨a0, a1, _⟩ _ => (a0, a1)
 args := λ x => [(AV.agg (zB x.1)), (AV.agg (zB x.2))]
 ret := λ y => ⟨(AV.v (.bool y)), [], none, [], [], [], none⟩
 t := λ x α k => (k (((x.1.1 == x.2.1) && ((x.1.2.1 == x.2.2.1) && ((x.1.2.2.1 == x.2.2.2.1) && ((x.1.2.2.2.1 == x.2.2.2.2.1) && true)))) && ((x.1.2.2.2.2.1 == x.2.2.2.2.2.1) && ((x.1.2.2.2.2.2.1 == x.2.2.2.2.2.2.1) && ((x.1.2.2.2.2.2.2.1 == x.2.2.2.2.2.2.2.1) && ((x.1.2.2.2.2.2.2.2.1 == x.2.2.2.2.2.2.2.2.1) && ((x.1.2.2.2.2.2.2.2.2.1 == x.2.2.2.2.2.2.2.2.2.1) && true)))))))
abbrev zxC (N : Nat) (x : RT0 × RT0) : Option (Bool) := (zm1 N).d x
theorem zrB (N : Nat) : Zd (zm1 N).t := by
 intro x α β k k' r r' h h1
 revert h
 dsimp only [zm1]
 (repeat' (first | (with_reducible refine ze ?_ ?_) | split)) <;> intro h <;> first | exact h1 _ h | cases h
theorem zrC (N : Nat) : Zg (zn qP) (zC1 N) zvZ (lam N []) Tryd.f46 (zm1 N) := λ x => by kernel_rfl
def zC0 (N : Nat) : Ent qP := zA (zc qP) (zh _) zk 46 Tryd.f46 Tryd.func46 rfl zvZ (lam N []) (zm (l := []) an (by kernel_rfl)) (zm1 N) (λ _ => ⟨rfl, rfl⟩) (zrC N) (λ _ _ _ h => zw h (λ _ _ => rfl) (λ _ _ => rfl)) (zrB N)
def zaz : Nat -> Keep × Keep := anL [(12, ⟨[7, 8], [], [30], [], [], [], [], [30], false, none, []⟩, ⟨[7], [], [30], [], [], [], [], [30], false, none, []⟩)]
def zvX (N : Nat) : GamK := gam (P := qP) [zDn N]
def JA (N : Nat) : LSpec where
 X := Nat × Int × qA
 Y := (Nat × qA)
 p := λ s => rdS 48 0 [(7, .vs0 30 1), (8, .int .i64)] [(30, .tt)] s λ ⟨a0, a1, _⟩ ⟨a2, _⟩ => (a0, a1, a2)
 st := λ u12 => mkS 48 [(7, (AV.vs 30 0 u12.1 1)), (8, (qI u12.2.1))] [(30, u12.2.2)] (zaz 12).1.toks 0
 out := λ y => (.exit 0, mkS 48 [(7, (AV.vs 30 0 y.1 1))] [(30, y.2)] (zaz 12).2.toks 0)
 b := λ u12 α kn ke => (match (decide (u12.2.1 < ((u12.1 : Nat) : Int))) with | true => (if 0 <= u12.2.1 /\ u12.2.1 <= (u12.1 : Int) then (if 0 <= u12.2.1 /\ u12.2.1 <= (u12.1 : Int) then (if (0 + (u12.2.1.toNat)) * 1 <= u12.2.2.length then (if ((0 + u12.2.1.toNat) + (u12.1 - u12.2.1.toNat)) * 1 <= u12.2.2.length then (kn (u12.1, (i64 (u12.2.1 + (((Nat.min (u12.2.1.toNat) (u12.1 - u12.2.1.toNat)) : Nat) : Int))), ((splice u12.2.2 ((0 + u12.2.1.toNat) * 1) ((u12.2.2.drop (0 * 1)).take ((Nat.min (u12.2.1.toNat) (u12.1 - u12.2.1.toNat)) * 1))).map dat0))) else none) else none) else none) else none) | false => (ke (u12.1, (u12.2.2.map dat0))))
abbrev zrv (N : Nat) (x : Nat × Int × qA) : Option ((Nat × qA)) := (JA N).L N x
def zgg (N : Nat) : FSpec where
 X := qL × Int
 Y := Nat × qA
 ash := [[some 1], [none]]
 S := ⟨[[some 1000001]], [], [], [], []⟩
 bm := true
 pat := λ a b => rdA [.lst 1, .int .i64] [] a b λ ⟨a0, a1, _⟩ _ => (a0, a1)
 args := λ x => [(AV.list 1 x.1 none), (AV.v (.int .i64 x.2))]
 ret := λ y => ⟨(AV.vs 0 0 y.1 1), [], some y.2, [], [], [], none⟩
 t := λ x α k => (match (decide (x.2 < 0)) with | true => none | false => (match zDm N ((IntKind.u64.wrap (x.1.length : Int)), (IntKind.u64.wrap x.2)) with | some y1 => (match (decide (y1.1 > 0)) with | true => none | false => (match (decide (y1.2 > 9223372036854775807)) with | true => none | false => (if 0 <= (IntKind.i64.wrap y1.2) /\ (IntKind.i64.wrap y1.2) <= (IntKind.i64.wrap y1.2) /\ (IntKind.i64.wrap y1.2).toNat * 8 <= zg then (if (0 + ((IntKind.i64.wrap y1.2).toNat)) * 1 <= (List.replicate (IntKind.i64.wrap y1.2).toNat (AV.v (.int .i64 0))).length then (match zrv N (((IntKind.i64.wrap y1.2).toNat), (((Nat.min x.1.length ((IntKind.i64.wrap y1.2).toNat)) : Nat) : Int), ((splice (List.replicate (IntKind.i64.wrap y1.2).toNat (AV.v (.int .i64 0))) (0 * 1) ((x.1.take (Nat.min x.1.length ((IntKind.i64.wrap y1.2).toNat))).flatten)).map dat0)) with | some y2 => (k (y2.1, (y2.2.map dat0))) | none => none) else none) else none))) | none => none))
abbrev zvW (N : Nat) (x : qL × Int) : Option (Nat × qA) := (zgg N).d x
def zcO (N : Nat) : List (Nat × LSpec) := [(12, JA N)]
def ziC : Code := Tryd.f44.body.getD .skip
theorem zkc (N : Nat) : Par (JA N).b := by
 intro x α β kn ke kn' ke' r r' h h1 h2
 revert h
 dsimp only [JA]
 (repeat' (first | (with_reducible refine ze ?_ ?_) | split)) <;> intro h <;> first | exact h1 _ h | exact h2 _ h | cases h
theorem zhr (N : Nat) : Z3 (zn qP) (zvX N) zaz N (zcO N) 12 ziC (JA N) := λ x α kn ke => by kernel_rfl
theorem zhs (N : Nat) : ZB qP zaz N (zcO N) 12 (zb 12 ziC) :=
 zD (zc qP) (zh _) zk zaz N (zcO N) 12 ziC (l := []) (by kernel_rfl) (by kernel_rfl) an (JA N) rfl (λ s x hc h => by dsimp only [JA] at h; exact zG hc h (λ _ _ => rfl) rfl rfl rfl) (λ _ => rfl) (zhr N) (zkc N)
theorem zmN (N : Nat) : Zd (zgg N).t := by
 intro x α β k k' r r' h h1
 revert h
 dsimp only [zgg]
 (repeat' (first | (with_reducible refine ze ?_ ?_) | split)) <;> intro h <;> first | exact h1 _ h | cases h
theorem zmO (N : Nat) : Zg (zn qP) (zvX N) zaz (lam N (zcO N)) Tryd.f44 (zgg N) := λ x => by kernel_rfl
def zz5 (N : Nat) : Ent qP := zA (zc qP) (zh _) zk 44 Tryd.f44 Tryd.func44 rfl zaz (lam N (zcO N)) (zm (l := [(12, zb 12 ziC)]) (al (zhs N) an) (by kernel_rfl)) (zgg N) (λ _ => ⟨rfl, rfl⟩) (zmO N) (λ _ _ _ h => zw h (λ _ _ => rfl) (λ _ _ => rfl)) (zmN N)
def j8 : Nat -> Keep × Keep := anL [(2, ⟨[0, 2, 3, 4, 12, 13], [], [0, 1, 2, 3, 4, 5], [(11, 1)], [], [], [], [4, 5], false, none, []⟩, ⟨[], [], [0, 1, 2, 3, 4, 5], [], [], [], [], [4, 5], false, none, []⟩), (14, ⟨[0, 2, 3, 4, 6, 7, 12, 13, 30, 31], [], [0, 1, 2, 3, 4, 5, 7], [(11, 1), (29, 25)], [], [], [], [4, 5], false, none, []⟩, ⟨[0, 2, 3, 4, 12, 13], [], [0, 1, 2, 3, 4, 5], [(11, 1)], [], [], [], [4, 5], false, none, []⟩)]
def zxA (N : Nat) : GamK := gam (P := qP) [zq7 N, zC0 N]
def Za (N : Nat) : LSpec where
 X := qL × qL × Int × Int × Int × Int × Int × qL × Nat × qL × Nat × qA × qA × qL
 Y := (qL × Int × Int × qL × Nat × qL × Nat × qA × qA)
 p := λ s => zeT s.env.length 58 <| zeT s.nin 6 <| jg 1 (s.at 11) λ a0 => jg 25 (s.at 29) λ a1 => pFn 46 (s.at 0) λ c5 c6 => zV c5 <| zV c6 <| zbd 1 0 (s.at 2) <| zbd 2 0 (s.at 3) <| zbd 3 0 (s.at 4) <| Jo .i64 (s.at 6) λ a2 => zbd 7 0 (s.at 7) <| Jo .i64 (s.at 12) λ a3 => Jo .i64 (s.at 13) λ a4 => Jo .i64 (s.at 30) λ a5 => Jo .i64 (s.at 31) λ a6 => Z2 (s.bx 0) λ c17 => zl c17 λ c19 c20 => jg 1 c19 λ a7 => zV c20 <| Z2 (s.bx 1) λ c21 => zl c21 λ c23 c24 => zhn 4 1 c23 λ a8 => zV c24 <| Z2 (s.bx 2) λ c25 => zl c25 λ c27 c28 => jg 25 c27 λ a9 => zV c28 <| Z2 (s.bx 3) λ c29 => zl c29 λ c31 c32 => zhn 5 1 c31 λ a10 => zV c32 <| Z2 (s.bx 4) λ a11 => Z2 (s.bx 5) λ a12 => Z2 (s.bx 7) λ c35 => zl c35 λ c37 c38 => jg 29 c37 λ a13 => zV c38 <| some (a0, a1, a2, a3, a4, a5, a6, a7, a8, a9, a10, a11, a12, a13)
 st := λ u14 => mkS 58 [(11, (AV.list 1 u14.1 none)), (29, (AV.list 25 u14.2.1 none)), (0, (AV.fn (.func 46) [] [])), (2, (AV.ptr 1 0)), (3, (AV.ptr 2 0)), (4, (AV.ptr 3 0)), (6, (qI u14.2.2.1)), (7, (AV.ptr 7 0)), (12, (qI u14.2.2.2.1)), (13, (qI u14.2.2.2.2.1)), (30, (qI u14.2.2.2.2.2.1)), (31, (qI u14.2.2.2.2.2.2.1))] [(0, [(AV.list 1 u14.2.2.2.2.2.2.2.1 none)]), (1, [(AV.vs 4 0 u14.2.2.2.2.2.2.2.2.1 1)]), (2, [(AV.list 25 u14.2.2.2.2.2.2.2.2.2.1 none)]), (3, [(AV.vs 5 0 u14.2.2.2.2.2.2.2.2.2.2.1 1)]), (4, u14.2.2.2.2.2.2.2.2.2.2.2.1), (5, u14.2.2.2.2.2.2.2.2.2.2.2.2.1), (7, [(AV.list 29 u14.2.2.2.2.2.2.2.2.2.2.2.2.2 none)])] (j8 14).1.toks 6
 out := λ y => (.exit 2, mkS 58 [(11, (AV.list 1 y.1 none)), (0, (AV.fn (.func 46) [] [])), (2, (AV.ptr 1 0)), (3, (AV.ptr 2 0)), (4, (AV.ptr 3 0)), (12, (qI y.2.1)), (13, (qI y.2.2.1))] [(0, [(AV.list 1 y.2.2.2.1 none)]), (1, [(AV.vs 4 0 y.2.2.2.2.1 1)]), (2, [(AV.list 25 y.2.2.2.2.2.1 none)]), (3, [(AV.vs 5 0 y.2.2.2.2.2.2.1 1)]), (4, y.2.2.2.2.2.2.2.1), (5, y.2.2.2.2.2.2.2.2)] (j8 14).2.toks 6)
 b := λ u14 α kn ke => (match (decide (u14.2.2.2.2.2.2.1 < u14.2.2.2.2.2.1)) with | true => (if 0 <= u14.2.2.2.2.2.2.1 then (match u14.2.1[u14.2.2.2.2.2.2.1.toNat]? with | some c12 => (match zhD c12 with | some e13 => (if 0 <= u14.2.2.2.2.2.2.1 /\ u14.2.2.2.2.2.2.1 < (u14.2.2.2.2.2.2.2.2.2.2.1 : Int) then (match u14.2.2.2.2.2.2.2.2.2.2.2.2.1[((0 + u14.2.2.2.2.2.2.1.toNat) * 1)]? with | some x14 => (match x14 with | .v (.bool b15) => (match (!b15) with | true => (match zmC N u14.2.2.2.2.2.2.2.2.2.2.2.2.2 with | some y16 => (match zxC N ((zx y16), e13) with | some y17 => (match y17 with | true => (if 0 <= u14.2.2.1 /\ u14.2.2.1 < (u14.2.2.2.2.2.2.2.2.1 : Int) then (if ((0 + u14.2.2.1.toNat) * 1) + 1 <= u14.2.2.2.2.2.2.2.2.2.2.2.1.length then (if 0 <= u14.2.2.2.2.2.2.1 /\ u14.2.2.2.2.2.2.1 < (u14.2.2.2.2.2.2.2.2.2.2.1 : Int) then (if ((0 + u14.2.2.2.2.2.2.1.toNat) * 1) + 1 <= u14.2.2.2.2.2.2.2.2.2.2.2.2.1.length then (ke (u14.1, u14.2.2.2.1, u14.2.2.2.2.1, u14.2.2.2.2.2.2.2.1, u14.2.2.2.2.2.2.2.2.1, u14.2.2.2.2.2.2.2.2.2.1, u14.2.2.2.2.2.2.2.2.2.2.1, ((splice u14.2.2.2.2.2.2.2.2.2.2.2.1 ((0 + u14.2.2.1.toNat) * 1) [(AV.v (.int .i64 u14.2.2.2.2.2.2.1))]).map dat0), ((splice u14.2.2.2.2.2.2.2.2.2.2.2.2.1 ((0 + u14.2.2.2.2.2.2.1.toNat) * 1) [(AV.v (.bool true))]).map dat0))) else none) else none) else none) else none) | false => (kn (u14.1, u14.2.1, u14.2.2.1, u14.2.2.2.1, u14.2.2.2.2.1, u14.2.2.2.2.2.1, (i64 (u14.2.2.2.2.2.2.1 + 1)), u14.2.2.2.2.2.2.2.1, u14.2.2.2.2.2.2.2.2.1, u14.2.2.2.2.2.2.2.2.2.1, u14.2.2.2.2.2.2.2.2.2.2.1, (u14.2.2.2.2.2.2.2.2.2.2.2.1.map dat0), (u14.2.2.2.2.2.2.2.2.2.2.2.2.1.map dat0), u14.2.2.2.2.2.2.2.2.2.2.2.2.2))) | none => none) | none => none) | false => (kn (u14.1, u14.2.1, u14.2.2.1, u14.2.2.2.1, u14.2.2.2.2.1, u14.2.2.2.2.2.1, (i64 (u14.2.2.2.2.2.2.1 + 1)), u14.2.2.2.2.2.2.2.1, u14.2.2.2.2.2.2.2.2.1, u14.2.2.2.2.2.2.2.2.2.1, u14.2.2.2.2.2.2.2.2.2.2.1, (u14.2.2.2.2.2.2.2.2.2.2.2.1.map dat0), (u14.2.2.2.2.2.2.2.2.2.2.2.2.1.map dat0), u14.2.2.2.2.2.2.2.2.2.2.2.2.2))) | _ => none) | none => none) else none) | none => none) | none => none) else none) | false => (ke (u14.1, u14.2.2.2.1, u14.2.2.2.2.1, u14.2.2.2.2.2.2.2.1, u14.2.2.2.2.2.2.2.2.1, u14.2.2.2.2.2.2.2.2.2.1, u14.2.2.2.2.2.2.2.2.2.2.1, (u14.2.2.2.2.2.2.2.2.2.2.2.1.map dat0), (u14.2.2.2.2.2.2.2.2.2.2.2.2.1.map dat0))))
abbrev zmQ (N : Nat) (x : qL × qL × Int × Int × Int × Int × Int × qL × Nat × qL × Nat × qA × qA × qL) : Option ((qL × Int × Int × qL × Nat × qL × Nat × qA × qA)) := (Za N).L N x
def ZM (N : Nat) : LSpec where
 X := qL × Int × Int × qL × Nat × qL × Nat × qA × qA
 Y := (qL × Nat × qL × Nat × qA × qA)
 p := λ s => zeT s.env.length 58 <| zeT s.nin 6 <| jg 1 (s.at 11) λ a0 => pFn 46 (s.at 0) λ c4 c5 => zV c4 <| zV c5 <| zbd 1 0 (s.at 2) <| zbd 2 0 (s.at 3) <| zbd 3 0 (s.at 4) <| Jo .i64 (s.at 12) λ a1 => Jo .i64 (s.at 13) λ a2 => Z2 (s.bx 0) λ c12 => zl c12 λ c14 c15 => jg 1 c14 λ a3 => zV c15 <| Z2 (s.bx 1) λ c16 => zl c16 λ c18 c19 => zhn 4 1 c18 λ a4 => zV c19 <| Z2 (s.bx 2) λ c20 => zl c20 λ c22 c23 => jg 25 c22 λ a5 => zV c23 <| Z2 (s.bx 3) λ c24 => zl c24 λ c26 c27 => zhn 5 1 c26 λ a6 => zV c27 <| Z2 (s.bx 4) λ a7 => Z2 (s.bx 5) λ a8 => some (a0, a1, a2, a3, a4, a5, a6, a7, a8)
 st := λ u2 => mkS 58 [(11, (AV.list 1 u2.1 none)), (0, (AV.fn (.func 46) [] [])), (2, (AV.ptr 1 0)), (3, (AV.ptr 2 0)), (4, (AV.ptr 3 0)), (12, (qI u2.2.1)), (13, (qI u2.2.2.1))] [(0, [(AV.list 1 u2.2.2.2.1 none)]), (1, [(AV.vs 4 0 u2.2.2.2.2.1 1)]), (2, [(AV.list 25 u2.2.2.2.2.2.1 none)]), (3, [(AV.vs 5 0 u2.2.2.2.2.2.2.1 1)]), (4, u2.2.2.2.2.2.2.2.1), (5, u2.2.2.2.2.2.2.2.2)] (j8 2).1.toks 6
 out := λ y => (.exit 0, mkS 58 [] [(0, [(AV.list 1 y.1 none)]), (1, [(AV.vs 4 0 y.2.1 1)]), (2, [(AV.list 25 y.2.2.1 none)]), (3, [(AV.vs 5 0 y.2.2.2.1 1)]), (4, y.2.2.2.2.1), (5, y.2.2.2.2.2)] (j8 2).2.toks 6)
 b := λ u2 α kn ke => (match (decide (u2.2.2.1 < u2.2.1)) with | true => (if 0 <= u2.2.2.1 then (match u2.1[u2.2.2.1.toNat]? with | some c19 => (match zdO c19 with | some e20 => (if 0 <= u2.2.2.1 /\ u2.2.2.1 < (u2.2.2.2.2.1 : Int) then (match u2.2.2.2.2.2.2.2.1[((0 + u2.2.2.1.toNat) * 1)]? with | some x21 => (match x21 with | .v (.int q23 n22) => (if q23 = .i64 then (match (decide (n22 >= 0)) with | true => (kn (u2.1, u2.2.1, (i64 (u2.2.2.1 + 1)), u2.2.2.2.1, u2.2.2.2.2.1, u2.2.2.2.2.2.1, u2.2.2.2.2.2.2.1, (u2.2.2.2.2.2.2.2.1.map dat0), (u2.2.2.2.2.2.2.2.2.map dat0))) | false => (match ((e20.1.length : Int) == 0) with | true => (kn (u2.1, u2.2.1, (i64 (u2.2.2.1 + 1)), u2.2.2.2.1, u2.2.2.2.2.1, u2.2.2.2.2.2.1, u2.2.2.2.2.2.2.1, (u2.2.2.2.2.2.2.2.1.map dat0), (u2.2.2.2.2.2.2.2.2.map dat0))) | false => (match zmQ N (u2.1, u2.2.2.2.2.2.1, u2.2.2.1, u2.2.1, u2.2.2.1, (u2.2.2.2.2.2.1.length : Int), 0, u2.2.2.2.1, u2.2.2.2.2.1, u2.2.2.2.2.2.1, u2.2.2.2.2.2.2.1, (u2.2.2.2.2.2.2.2.1.map dat0), (u2.2.2.2.2.2.2.2.2.map dat0), e20.1) with | some y24 => (kn (y24.1, y24.2.1, (i64 (y24.2.2.1 + 1)), y24.2.2.2.1, y24.2.2.2.2.1, y24.2.2.2.2.2.1, y24.2.2.2.2.2.2.1, (y24.2.2.2.2.2.2.2.1.map dat0), (y24.2.2.2.2.2.2.2.2.map dat0))) | none => none))) else none) | _ => none) | none => none) else none) | none => none) | none => none) else none) | false => (ke (u2.2.2.2.1, u2.2.2.2.2.1, u2.2.2.2.2.2.1, u2.2.2.2.2.2.2.1, (u2.2.2.2.2.2.2.2.1.map dat0), (u2.2.2.2.2.2.2.2.2.map dat0))))
abbrev zvY (N : Nat) (x : qL × Int × Int × qL × Nat × qL × Nat × qA × qA) : Option ((qL × Nat × qL × Nat × qA × qA)) := (ZM N).L N x
def zdY (N : Nat) : FSpec where
 X := qL × Nat × qL × Nat × qA × qA
 Y := qL × Nat × qL × Nat × qA × qA
 ash := [[none], [none], [none], [none], [none]]
 bsh := [[some 1], [none], [some 25], [none], [], []]
 S := ⟨[], [[some 1], [some 2000001], [some 25], [some 2000001], [], []], [], [], [4, 5]⟩
 pat := λ a b => zl a λ v1 c2 => pFn 46 v1 λ c3 c4 => zV c3 <| zV c4 <| zl c2 λ v5 c6 => zbd 0 0 v5 <| zl c6 λ v7 c8 => zbd 1 0 v7 <| zl c8 λ v9 c10 => zbd 2 0 v9 <| zl c10 λ v11 c12 => zbd 3 0 v11 <| zV c12 <| zl b λ v13 c14 => zl v13 λ c15 c16 => jg 1 c15 λ a0 => zV c16 <| zl c14 λ v17 c18 => zl v17 λ c19 c20 => zhn 4 1 c19 λ a1 => zV c20 <| zl c18 λ v21 c22 => zl v21 λ c23 c24 => jg 25 c23 λ a2 => zV c24 <| zl c22 λ v25 c26 => zl v25 λ c27 c28 => zhn 5 1 c27 λ a3 => zV c28 <| zl c26 λ a4 c29 => zl c29 λ a5 c30 => zV c30 <| some (a0, a1, a2, a3, a4, a5)
 args := λ x => [(AV.fn (.func 46) [] []), (AV.ptr 0 0), (AV.ptr 1 0), (AV.ptr 2 0), (AV.ptr 3 0)]
 bs := λ x => [[(AV.list 1 x.1 none)], [(AV.vs 4 0 x.2.1 1)], [(AV.list 25 x.2.2.1 none)], [(AV.vs 5 0 x.2.2.2.1 1)], x.2.2.2.2.1, x.2.2.2.2.2]
 ret := λ y => ⟨(AV.tup []), [[(AV.list 1 y.1 none)], [(AV.vs 4 0 y.2.1 1)], [(AV.list 25 y.2.2.1 none)], [(AV.vs 5 0 y.2.2.2.1 1)], y.2.2.2.2.1, y.2.2.2.2.2], none, [], [], [4, 5], none⟩
 t := λ x α k => (match zvY N (x.1, (x.1.length : Int), 0, x.1, x.2.1, x.2.2.1, x.2.2.2.1, (x.2.2.2.2.1.map dat0), (x.2.2.2.2.2.map dat0)) with | some y25 => (k (y25.1, y25.2.1, y25.2.2.1, y25.2.2.2.1, (y25.2.2.2.2.1.map dat0), (y25.2.2.2.2.2.map dat0))) | none => none)
abbrev zxz (N : Nat) (x : qL × Nat × qL × Nat × qA × qA) : Option (qL × Nat × qL × Nat × qA × qA) := (zdY N).d x
def zbD (N : Nat) : List (Nat × LSpec) := [(2, ZM N), (14, Za N)]
def ze9 : Code := Tryd.f45.body.getD .skip
theorem zmS (N : Nat) : Par (Za N).b := by
 intro x α β kn ke kn' ke' r r' h h1 h2
 revert h
 dsimp only [Za]
 (repeat' (first | (with_reducible refine ze ?_ ?_) | split)) <;> intro h <;> first | exact h1 _ h | exact h2 _ h | cases h
theorem zkd (N : Nat) : Z3 (zn qP) (zxA N) j8 N (zbD N) 14 ze9 (Za N) := λ x α kn ke => by kernel_rfl
theorem zmT (N : Nat) (s : AS) (x : (Za N).X) (hc : s = ZJ (j8 14).1 s) (h : (Za N).p s = some x) : s = (Za N).st x := by
 replace h : zeT _ _ _ = some x := h
 obtain ⟨h1, g0⟩ := jB h
 obtain ⟨h2, g1⟩ := jB g0; clear g0
 obtain ⟨a0, h3, g2⟩ := zr g1; clear g1
 obtain ⟨a1, h4, g3⟩ := zr g2; clear g2
 obtain ⟨c5, c6, h7, g4⟩ := zau g3; clear g3
 obtain ⟨rfl, g5⟩ := zi g4; clear g4
 obtain ⟨rfl, g6⟩ := zi g5; clear g5
 obtain ⟨h8, g7⟩ := Zb g6; clear g6
 obtain ⟨h9, g8⟩ := Zb g7; clear g7
 obtain ⟨h10, g9⟩ := Zb g8; clear g8
 obtain ⟨a2, h11, g10⟩ := zJ g9; clear g9
 obtain ⟨h12, g11⟩ := Zb g10; clear g10
 obtain ⟨a3, h13, g12⟩ := zJ g11; clear g11
 obtain ⟨a4, h14, g13⟩ := zJ g12; clear g12
 obtain ⟨a5, h15, g14⟩ := zJ g13; clear g13
 obtain ⟨a6, h16, g15⟩ := zJ g14; clear g14
 obtain ⟨c17, h18, g16⟩ := zN g15; clear g15
 obtain ⟨c19, c20, rfl, g17⟩ := zd g16; clear g16
 obtain ⟨a7, rfl, g18⟩ := zr g17; clear g17
 obtain ⟨rfl, g19⟩ := zi g18; clear g18
 obtain ⟨c21, h22, g20⟩ := zN g19; clear g19
 obtain ⟨c23, c24, rfl, g21⟩ := zd g20; clear g20
 obtain ⟨a8, rfl, g22⟩ := jl g21; clear g21
 obtain ⟨rfl, g23⟩ := zi g22; clear g22
 obtain ⟨c25, h26, g24⟩ := zN g23; clear g23
 obtain ⟨c27, c28, rfl, g25⟩ := zd g24; clear g24
 obtain ⟨a9, rfl, g26⟩ := zr g25; clear g25
 obtain ⟨rfl, g27⟩ := zi g26; clear g26
 obtain ⟨c29, h30, g28⟩ := zN g27; clear g27
 obtain ⟨c31, c32, rfl, g29⟩ := zd g28; clear g28
 obtain ⟨a10, rfl, g30⟩ := jl g29; clear g29
 obtain ⟨rfl, g31⟩ := zi g30; clear g30
 obtain ⟨a11, h33, g32⟩ := zN g31; clear g31
 obtain ⟨a12, h34, g33⟩ := zN g32; clear g32
 obtain ⟨c35, h36, g34⟩ := zN g33; clear g33
 obtain ⟨c37, c38, rfl, g35⟩ := zd g34; clear g34
 obtain ⟨a13, rfl, g36⟩ := zr g35; clear g35
 obtain ⟨rfl, g37⟩ := zi g36; clear g36
 clear h
 cases g37
 exact JD hc h1 h2 rfl rfl rfl rfl ⟨h3, h4, h7, h8, h9, h10, h11, h12, h13, h14, h15, h16, trivial⟩ ⟨h18, h22, h26, h30, h33, h34, h36, trivial⟩
theorem zep (N : Nat) : ZB qP j8 N (zbD N) 14 (zb 14 ze9) :=
 zD (zc qP) (zh _) zk j8 N (zbD N) 14 ze9 (l := []) (by kernel_rfl) (by kernel_rfl) an (Za N) rfl (zmT N) (λ _ => rfl) (zkd N) (zmS N)
theorem zrw (N : Nat) : Par (ZM N).b := by
 intro x α β kn ke kn' ke' r r' h h1 h2
 revert h
 dsimp only [ZM]
 (repeat' (first | (with_reducible refine ze ?_ ?_) | split)) <;> intro h <;> first | exact h1 _ h | exact h2 _ h | cases h
theorem zmP (N : Nat) : Z3 (zn qP) (zxA N) j8 N (zbD N) 2 ze9 (ZM N) := λ x α kn ke => by kernel_rfl
theorem zry (N : Nat) (s : AS) (x : (ZM N).X) (hc : s = ZJ (j8 2).1 s) (h : (ZM N).p s = some x) : s = (ZM N).st x := by
 replace h : zeT _ _ _ = some x := h
 obtain ⟨h1, g0⟩ := jB h
 obtain ⟨h2, g1⟩ := jB g0; clear g0
 obtain ⟨a0, h3, g2⟩ := zr g1; clear g1
 obtain ⟨c4, c5, h6, g3⟩ := zau g2; clear g2
 obtain ⟨rfl, g4⟩ := zi g3; clear g3
 obtain ⟨rfl, g5⟩ := zi g4; clear g4
 obtain ⟨h7, g6⟩ := Zb g5; clear g5
 obtain ⟨h8, g7⟩ := Zb g6; clear g6
 obtain ⟨h9, g8⟩ := Zb g7; clear g7
 obtain ⟨a1, h10, g9⟩ := zJ g8; clear g8
 obtain ⟨a2, h11, g10⟩ := zJ g9; clear g9
 obtain ⟨c12, h13, g11⟩ := zN g10; clear g10
 obtain ⟨c14, c15, rfl, g12⟩ := zd g11; clear g11
 obtain ⟨a3, rfl, g13⟩ := zr g12; clear g12
 obtain ⟨rfl, g14⟩ := zi g13; clear g13
 obtain ⟨c16, h17, g15⟩ := zN g14; clear g14
 obtain ⟨c18, c19, rfl, g16⟩ := zd g15; clear g15
 obtain ⟨a4, rfl, g17⟩ := jl g16; clear g16
 obtain ⟨rfl, g18⟩ := zi g17; clear g17
 obtain ⟨c20, h21, g19⟩ := zN g18; clear g18
 obtain ⟨c22, c23, rfl, g20⟩ := zd g19; clear g19
 obtain ⟨a5, rfl, g21⟩ := zr g20; clear g20
 obtain ⟨rfl, g22⟩ := zi g21; clear g21
 obtain ⟨c24, h25, g23⟩ := zN g22; clear g22
 obtain ⟨c26, c27, rfl, g24⟩ := zd g23; clear g23
 obtain ⟨a6, rfl, g25⟩ := jl g24; clear g24
 obtain ⟨rfl, g26⟩ := zi g25; clear g25
 obtain ⟨a7, h28, g27⟩ := zN g26; clear g26
 obtain ⟨a8, h29, g28⟩ := zN g27; clear g27
 clear h
 cases g28
 exact JD hc h1 h2 rfl rfl rfl rfl ⟨h3, h6, h7, h8, h9, h10, h11, trivial⟩ ⟨h13, h17, h21, h25, h28, h29, trivial⟩
theorem zmR (N : Nat) : ZB qP j8 N (zbD N) 2 (zb 2 ze9) :=
 zD (zc qP) (zh _) zk j8 N (zbD N) 2 ze9 (l := [(14, zb 14 ze9)]) (by kernel_rfl) (by kernel_rfl) (al (zep N) an) (ZM N) rfl (zry N) (λ _ => rfl) (zmP N) (zrw N)
theorem zrx (N : Nat) : Zd (zdY N).t := by
 intro x α β k k' r r' h h1
 revert h
 dsimp only [zdY]
 (repeat' (first | (with_reducible refine ze ?_ ?_) | split)) <;> intro h <;> first | exact h1 _ h | cases h
theorem zrz (N : Nat) : Zg (zn qP) (zxA N) j8 (lam N (zbD N)) Tryd.f45 (zdY N) := λ x => by kernel_rfl
theorem zxB (N : Nat) (a : List AV) (b : qL) (x : (zdY N).X) (h : (zdY N).pat a b = some x) : a = (zdY N).args x /\ b = (zdY N).bs x := by
 obtain ⟨v1, c2, rfl, g0⟩ := zd (show zl _ _ = some x from h)
 obtain ⟨c3, c4, rfl, g1⟩ := zau g0; clear g0
 obtain ⟨rfl, g2⟩ := zi g1; clear g1
 obtain ⟨rfl, g3⟩ := zi g2; clear g2
 obtain ⟨v5, c6, rfl, g4⟩ := zd g3; clear g3
 obtain ⟨rfl, g5⟩ := Zb g4; clear g4
 obtain ⟨v7, c8, rfl, g6⟩ := zd g5; clear g5
 obtain ⟨rfl, g7⟩ := Zb g6; clear g6
 obtain ⟨v9, c10, rfl, g8⟩ := zd g7; clear g7
 obtain ⟨rfl, g9⟩ := Zb g8; clear g8
 obtain ⟨v11, c12, rfl, g10⟩ := zd g9; clear g9
 obtain ⟨rfl, g11⟩ := Zb g10; clear g10
 obtain ⟨rfl, g12⟩ := zi g11; clear g11
 obtain ⟨v13, c14, rfl, g13⟩ := zd g12; clear g12
 obtain ⟨c15, c16, rfl, g14⟩ := zd g13; clear g13
 obtain ⟨a0, rfl, g15⟩ := zr g14; clear g14
 obtain ⟨rfl, g16⟩ := zi g15; clear g15
 obtain ⟨v17, c18, rfl, g17⟩ := zd g16; clear g16
 obtain ⟨c19, c20, rfl, g18⟩ := zd g17; clear g17
 obtain ⟨a1, rfl, g19⟩ := jl g18; clear g18
 obtain ⟨rfl, g20⟩ := zi g19; clear g19
 obtain ⟨v21, c22, rfl, g21⟩ := zd g20; clear g20
 obtain ⟨c23, c24, rfl, g22⟩ := zd g21; clear g21
 obtain ⟨a2, rfl, g23⟩ := zr g22; clear g22
 obtain ⟨rfl, g24⟩ := zi g23; clear g23
 obtain ⟨v25, c26, rfl, g25⟩ := zd g24; clear g24
 obtain ⟨c27, c28, rfl, g26⟩ := zd g25; clear g25
 obtain ⟨a3, rfl, g27⟩ := jl g26; clear g26
 obtain ⟨rfl, g28⟩ := zi g27; clear g27
 obtain ⟨a4, c29, rfl, g29⟩ := zd g28; clear g28
 obtain ⟨a5, c30, rfl, g30⟩ := zd g29; clear g29
 obtain ⟨rfl, g31⟩ := zi g30; clear g30
 clear h
 cases g31
 exact ⟨rfl, rfl⟩
def zCZ (N : Nat) : Ent qP := zA (zc qP) (zh _) zk 45 Tryd.f45 Tryd.func45 rfl j8 (lam N (zbD N)) (zm (l := [(2, zb 2 ze9), (14, zb 14 ze9)]) (al (zmR N) (al (zep N) an)) (by kernel_rfl)) (zdY N) (λ _ => ⟨rfl, rfl⟩) (zrz N) (zxB N) (zrx N)
def zbU : Nat -> Keep × Keep := anL [(4, ⟨[3, 7, 8], [], [3], [(0, 9)], [], [], [], [], false, none, []⟩, qK [4] [] [])]
def zA5 (N : Nat) : GamK := gam (P := qP) []
def ja (N : Nat) : LSpec where
 X := qL × Int × Int × RT1
 Y := (Int) ⊕ (Unit)
 p := λ s => rdS 19 0 [(0, .lst 9), (3, .ptr 3 0), (7, .int .i64), (8, .int .i64)] [(3, .row RK1)] s λ ⟨a0, _, a1, a2, _⟩ ⟨a3, _⟩ => (a0, a1, a2, a3)
 st := λ u4 => mkS 19 [(0, (AV.list 9 u4.1 none)), (3, (AV.ptr 3 0)), (7, (qI u4.2.1)), (8, (qI u4.2.2.1))] [(3, (zy u4.2.2.2))] (zbU 4).1.toks 0
 out := λ y => match y with
  | .inl y => (.ret, mkS 19 [(4, (qI y))] [] (zbU 4).2.toks 0)
  | .inr y => (.exit 0, mkS 19 [] [] (zbU 4).2.toks 0)
 b := λ u4 α kn ke => (match (decide (u4.2.2.1 < u4.2.1)) with | true => (if 0 <= u4.2.2.1 then (match u4.1[u4.2.2.1.toNat]? with | some c1 => (match Jy c1 with | some e2 => (match (((u4.2.2.2.1 == e2.1) && ((u4.2.2.2.2.1 == e2.2.1) && ((u4.2.2.2.2.2.1 == e2.2.2.1) && ((u4.2.2.2.2.2.2.1 == e2.2.2.2.1) && true)))) && ((u4.2.2.2.2.2.2.2.1 == e2.2.2.2.2.1) && ((u4.2.2.2.2.2.2.2.2.1 == e2.2.2.2.2.2.1) && ((u4.2.2.2.2.2.2.2.2.2.1 == e2.2.2.2.2.2.2.1) && ((u4.2.2.2.2.2.2.2.2.2.2.1 == e2.2.2.2.2.2.2.2.1) && ((u4.2.2.2.2.2.2.2.2.2.2.2.1 == e2.2.2.2.2.2.2.2.2.1) && true)))))) with | true => (ke (.inl u4.2.2.1)) | false => (kn (u4.1, u4.2.1, (i64 (u4.2.2.1 + 1)), u4.2.2.2))) | none => none) | none => none) else none) | false => (ke (.inr ())))
abbrev zwG (N : Nat) (x : qL × Int × Int × RT1) : Option ((Int) ⊕ (Unit)) := (ja N).L N x
def zkU (N : Nat) : FSpec where
 X := qL × RT1
 Y := Int
 ash := [[some 9], [none, none, none, none, none, none, none, none, none]]
 S := ⟨[[none]], [], [], [], []⟩
 pat := λ a b => rdA [.lst 9, .agg RK1] [] a b λ ⟨a0, a1, _⟩ _ => (a0, a1)
 args := λ x => [(AV.list 9 x.1 none), (AV.agg (zy x.2))]
 ret := λ y => ⟨(AV.v (.int .i64 y)), [], none, [], [], [], none⟩
 t := λ x α k => (match zwG N (x.1, (x.1.length : Int), 0, x.2) with | some y3 => (match y3 with | .inl z4 => (k z4) | .inr z5 => (k (-1))) | none => none)
abbrev zA4 (N : Nat) (x : qL × RT1) : Option (Int) := (zkU N).d x
def zgy (N : Nat) : List (Nat × LSpec) := [(4, ja N)]
def ztR : Code := Tryd.f95.body.getD .skip
theorem ztS (N : Nat) : Par (ja N).b := by
 intro x α β kn ke kn' ke' r r' h h1 h2
 revert h
 dsimp only [ja]
 (repeat' (first | (with_reducible refine ze ?_ ?_) | split)) <;> intro h <;> first | exact h1 _ h | exact h2 _ h | cases h
theorem zoI (N : Nat) : Z3 (zn qP) (zA5 N) zbU N (zgy N) 4 ztR (ja N) := λ x α kn ke => by kernel_rfl
theorem zoJ (N : Nat) : ZB qP zbU N (zgy N) 4 (zb 4 ztR) :=
 zD (zc qP) (zh _) zk zbU N (zgy N) 4 ztR (l := []) (by kernel_rfl) (by kernel_rfl) an (ja N) rfl (λ s x hc h => by dsimp only [ja] at h; exact zG hc h (λ _ _ => rfl) rfl rfl rfl) (λ _ => rfl) (zoI N) (ztS N)
theorem ztT (N : Nat) : Zd (zkU N).t := by
 intro x α β k k' r r' h h1
 revert h
 dsimp only [zkU]
 (repeat' (first | (with_reducible refine ze ?_ ?_) | split)) <;> intro h <;> first | exact h1 _ h | cases h
theorem ztU (N : Nat) : Zg (zn qP) (zA5 N) zbU (lam N (zgy N)) Tryd.f95 (zkU N) := λ x => by kernel_rfl
def zDW (N : Nat) : Ent qP := zA (zc qP) (zh _) zk 95 Tryd.f95 Tryd.func95 rfl zbU (lam N (zgy N)) (zm (l := [(4, zb 4 ztR)]) (al (zoJ N) an) (by kernel_rfl)) (zkU N) (λ _ => ⟨rfl, rfl⟩) (ztU N) (λ _ _ _ h => zw h (λ _ _ => rfl) (λ _ _ => rfl)) (ztT N)
def zwq : Nat -> Keep × Keep := anL []
def zDv (N : Nat) : GamK := gam (P := qP) [zDW N]
def zkG (N : Nat) : FSpec where
 X := qL × RT1
 Y := Bool
 ash := [[some 9], [none, none, none, none, none, none, none, none, none]]
 S := ⟨[[none]], [], [], [], []⟩
 pat := λ a b => rdA [.lst 9, .agg RK1] [] a b λ ⟨a0, a1, _⟩ _ => (a0, a1)
 args := λ x => [(AV.list 9 x.1 none), (AV.agg (zy x.2))]
 ret := λ y => ⟨(AV.v (.bool y)), [], none, [], [], [], none⟩
 t := λ x α k => (match zA4 N x with | some y1 => (k (decide (y1 >= 0))) | none => none)
abbrev zxW (N : Nat) (x : qL × RT1) : Option (Bool) := (zkG N).d x
theorem zsE (N : Nat) : Zd (zkG N).t := by
 intro x α β k k' r r' h h1
 revert h
 dsimp only [zkG]
 (repeat' (first | (with_reducible refine ze ?_ ?_) | split)) <;> intro h <;> first | exact h1 _ h | cases h
theorem zsF (N : Nat) : Zg (zn qP) (zDv N) zwq (lam N []) Tryd.f71 (zkG N) := λ x => by kernel_rfl
def zDu (N : Nat) : Ent qP := zA (zc qP) (zh _) zk 71 Tryd.f71 Tryd.func71 rfl zwq (lam N []) (zm (l := []) an (by kernel_rfl)) (zkG N) (λ _ => ⟨rfl, rfl⟩) (zsF N) (λ _ _ _ h => zw h (λ _ _ => rfl) (λ _ _ => rfl)) (zsE N)
def zwp : Nat -> Keep × Keep := anL []
def zDt (N : Nat) : GamK := gam (P := qP) [zDu N]
def zkF (N : Nat) : FSpec where
 X := RT1 × RT0
 Y := Bool × RT0
 ash := [[none, none, none, none, none, none, none, none, none], [none]]
 bsh := [[none, none, none, none, none, none, none, none, none, some 9, none, none, none, none, none, none, none, none, none, none, none, none, none, none, none]]
 S := ⟨[[none]], [[]], [], [], []⟩
 pat := λ a b => rdA [.agg RK1, .ptr 0 0] [.row RK0] a b λ ⟨a0, _, _⟩ ⟨a1, _⟩ => (a0, a1)
 args := λ x => [(AV.agg (zy x.1)), (AV.ptr 0 0)]
 bs := λ x => [(zB x.2)]
 ret := λ y => ⟨(AV.v (.bool y.1)), [(zB y.2)], none, [], [], [], none⟩
 t := λ x α k => (match zxW N (x.2.2.2.2.2.2.2.2.2.2.1, x.1) with | some y1 => (k (y1, x.2)) | none => none)
abbrev zxV (N : Nat) (x : RT1 × RT0) : Option (Bool × RT0) := (zkF N).d x
theorem zsC (N : Nat) : Zd (zkF N).t := by
 intro x α β k k' r r' h h1
 revert h
 dsimp only [zkF]
 (repeat' (first | (with_reducible refine ze ?_ ?_) | split)) <;> intro h <;> first | exact h1 _ h | cases h
theorem zsD (N : Nat) : Zg (zn qP) (zDt N) zwp (lam N []) Tryd.f70 (zkF N) := λ x => by kernel_rfl
def zDs (N : Nat) : Ent qP := zA (zc qP) (zh _) zk 70 Tryd.f70 Tryd.func70 rfl zwp (lam N []) (zm (l := []) an (by kernel_rfl)) (zkF N) (λ _ => ⟨rfl, rfl⟩) (zsD N) (λ _ _ _ h => zw h (λ _ _ => rfl) (λ _ _ => rfl)) (zsC N)
def zbT : Nat -> Keep × Keep := anL [(4, ⟨[1, 7, 8], [], [0], [(0, 9)], [], [], [], [], false, none, []⟩, qK [4] [] [0])]
def zA3 (N : Nat) : GamK := gam (P := qP) [zDs N]
def Z9 (N : Nat) : LSpec where
 X := qL × Int × Int × RT0
 Y := (Int × RT0) ⊕ (RT0)
 p := λ s => rdS 19 1 [(0, .lst 9), (1, .fn1 70 0), (7, .int .i64), (8, .int .i64)] [(0, .row RK0)] s λ ⟨a0, _, a1, a2, _⟩ ⟨a3, _⟩ => (a0, a1, a2, a3)
 st := λ u4 => mkS 19 [(0, (AV.list 9 u4.1 none)), (1, (AV.fn (.func 70) [] [(AV.ptr 0 0)])), (7, (qI u4.2.1)), (8, (qI u4.2.2.1))] [(0, (zB u4.2.2.2))] (zbT 4).1.toks 1
 out := λ y => match y with
  | .inl y => (.ret, mkS 19 [(4, (qI y.1))] [(0, (zB y.2))] (zbT 4).2.toks 1)
  | .inr y => (.exit 0, mkS 19 [] [(0, (zB y))] (zbT 4).2.toks 1)
 b := λ u4 α kn ke => (match (decide (u4.2.2.1 < u4.2.1)) with | true => (if 0 <= u4.2.2.1 then (match u4.1[u4.2.2.1.toNat]? with | some c4 => (match Jy c4 with | some e5 => (match zxV N (e5, u4.2.2.2) with | some y6 => (match y6.1 with | true => (ke (.inl (u4.2.2.1, y6.2))) | false => (kn (u4.1, u4.2.1, (i64 (u4.2.2.1 + 1)), y6.2))) | none => none) | none => none) | none => none) else none) | false => (ke (.inr u4.2.2.2)))
abbrev zwF (N : Nat) (x : qL × Int × Int × RT0) : Option ((Int × RT0) ⊕ (RT0)) := (Z9 N).L N x
def zkT (N : Nat) : FSpec where
 X := qL × RT0
 Y := Int × RT0
 ash := [[some 9], [none]]
 bsh := [[none, none, none, none, none, none, none, none, none, some 9, none, none, none, none, none, none, none, none, none, none, none, none, none, none, none]]
 S := ⟨[[none]], [[]], [], [], []⟩
 pat := λ a b => rdA [.lst 9, .fn1 70 0] [.row RK0] a b λ ⟨a0, _, _⟩ ⟨a1, _⟩ => (a0, a1)
 args := λ x => [(AV.list 9 x.1 none), (AV.fn (.func 70) [] [(AV.ptr 0 0)])]
 bs := λ x => [(zB x.2)]
 ret := λ y => ⟨(AV.v (.int .i64 y.1)), [(zB y.2)], none, [], [], [], none⟩
 t := λ x α k => (match zwF N (x.1, (x.1.length : Int), 0, x.2) with | some y7 => (match y7 with | .inl z8 => (k z8) | .inr z9 => (k ((-1), z9))) | none => none)
abbrev zA2 (N : Nat) (x : qL × RT0) : Option (Int × RT0) := (zkT N).d x
def zgx (N : Nat) : List (Nat × LSpec) := [(4, Z9 N)]
def ztN : Code := Tryd.f94.body.getD .skip
theorem ztO (N : Nat) : Par (Z9 N).b := by
 intro x α β kn ke kn' ke' r r' h h1 h2
 revert h
 dsimp only [Z9]
 (repeat' (first | (with_reducible refine ze ?_ ?_) | split)) <;> intro h <;> first | exact h1 _ h | exact h2 _ h | cases h
theorem zoG (N : Nat) : Z3 (zn qP) (zA3 N) zbT N (zgx N) 4 ztN (Z9 N) := λ x α kn ke => by kernel_rfl
theorem zoH (N : Nat) : ZB qP zbT N (zgx N) 4 (zb 4 ztN) :=
 zD (zc qP) (zh _) zk zbT N (zgx N) 4 ztN (l := []) (by kernel_rfl) (by kernel_rfl) an (Z9 N) rfl (λ s x hc h => by dsimp only [Z9] at h; exact zG hc h (λ _ _ => rfl) rfl rfl rfl) (λ _ => rfl) (zoG N) (ztO N)
theorem ztP (N : Nat) : Zd (zkT N).t := by
 intro x α β k k' r r' h h1
 revert h
 dsimp only [zkT]
 (repeat' (first | (with_reducible refine ze ?_ ?_) | split)) <;> intro h <;> first | exact h1 _ h | cases h
theorem ztQ (N : Nat) : Zg (zn qP) (zA3 N) zbT (lam N (zgx N)) Tryd.f94 (zkT N) := λ x => by kernel_rfl
def zDV (N : Nat) : Ent qP := zA (zc qP) (zh _) zk 94 Tryd.f94 Tryd.func94 rfl zbT (lam N (zgx N)) (zm (l := [(4, zb 4 ztN)]) (al (zoH N) an) (by kernel_rfl)) (zkT N) (λ _ => ⟨rfl, rfl⟩) (ztQ N) (λ _ _ _ h => zw h (λ _ _ => rfl) (λ _ _ => rfl)) (ztP N)
def zwo : Nat -> Keep × Keep := anL []
def zDq (N : Nat) : GamK := gam (P := qP) [zDV N]
def zkE (N : Nat) : FSpec where
 X := qL × RT0
 Y := Bool × RT0
 ash := [[some 9], [none]]
 bsh := [[none, none, none, none, none, none, none, none, none, some 9, none, none, none, none, none, none, none, none, none, none, none, none, none, none, none]]
 S := ⟨[[none]], [[none, none, none, none, none, none, none, none, none, some 9, none, none, none, none, none, none, none, none, none, none, none, none, none, none, none]], [], [], []⟩
 pat := λ a b => rdA [.lst 9, .fn1 70 0] [.row RK0] a b λ ⟨a0, _, _⟩ ⟨a1, _⟩ => (a0, a1)
 args := λ x => [(AV.list 9 x.1 none), (AV.fn (.func 70) [] [(AV.ptr 0 0)])]
 bs := λ x => [(zB x.2)]
 ret := λ y => ⟨(AV.v (.bool y.1)), [(zB y.2)], none, [], [], [], none⟩
 t := λ x α k => (match zA2 N x with | some y1 => (k ((decide (y1.1 >= 0)), y1.2)) | none => none)
abbrev zAv (N : Nat) (x : qL × RT0) : Option (Bool × RT0) := (zkE N).d x
theorem zsA (N : Nat) : Zd (zkE N).t := by
 intro x α β k k' r r' h h1
 revert h
 dsimp only [zkE]
 (repeat' (first | (with_reducible refine ze ?_ ?_) | split)) <;> intro h <;> first | exact h1 _ h | cases h
theorem zsB (N : Nat) : Zg (zn qP) (zDq N) zwo (lam N []) Tryd.f69 (zkE N) := λ x => by kernel_rfl
def zDp (N : Nat) : Ent qP := zA (zc qP) (zh _) zk 69 Tryd.f69 Tryd.func69 rfl zwo (lam N []) (zm (l := []) an (by kernel_rfl)) (zkE N) (λ _ => ⟨rfl, rfl⟩) (zsB N) (λ _ _ _ h => zw h (λ _ _ => rfl) (λ _ _ => rfl)) (zsA N)
def zv0 : Nat -> Keep × Keep := anL []
def zC3 (N : Nat) : GamK := gam (P := qP) [zDp N]
def zki (N : Nat) : FSpec where
 X := RT0 × RT0
 Y := Bool
 ash := [[none, none, none, none, none, none, none, none, none, some 9, none, none, none, none, none, none, none, none, none, none, none, none, none, none, none], [none, none, none, none, none, none, none, none, none, some 9, none, none, none, none, none, none, none, none, none, none, none, none, none, none, none]]
 S := ⟨[[none]], [], [], [], []⟩
 pat := λ a b => rdA [.agg RK0, .agg RK0] [] a b λ ⟨a0, a1, _⟩ _ => (a0, a1)
 args := λ x => [(AV.agg (zB x.1)), (AV.agg (zB x.2))]
 ret := λ y => ⟨(AV.v (.bool y)), [], none, [], [], [], none⟩
 t := λ x α k => (match zAv N (x.1.2.2.2.2.2.2.2.2.2.1, x.2) with | some y1 => (k y1.1) | none => none)
abbrev zm2 (N : Nat) (x : RT0 × RT0) : Option (Bool) := (zki N).d x
theorem zrD (N : Nat) : Zd (zki N).t := by
 intro x α β k k' r r' h h1
 revert h
 dsimp only [zki]
 (repeat' (first | (with_reducible refine ze ?_ ?_) | split)) <;> intro h <;> first | exact h1 _ h | cases h
theorem zrE (N : Nat) : Zg (zn qP) (zC3 N) zv0 (lam N []) Tryd.f47 (zki N) := λ x => by kernel_rfl
def zC2 (N : Nat) : Ent qP := zA (zc qP) (zh _) zk 47 Tryd.f47 Tryd.func47 rfl zv0 (lam N []) (zm (l := []) an (by kernel_rfl)) (zki N) (λ _ => ⟨rfl, rfl⟩) (zrE N) (λ _ _ _ h => zw h (λ _ _ => rfl) (λ _ _ => rfl)) (zrD N)
def Z5 : Nat -> Keep × Keep := anL [(2, ⟨[0, 2, 3, 4, 12, 13], [], [0, 1, 2, 3, 4, 5], [(11, 1)], [], [], [], [4, 5], false, none, []⟩, ⟨[], [], [0, 1, 2, 3, 4, 5], [], [], [], [], [4, 5], false, none, []⟩), (14, ⟨[0, 2, 3, 4, 6, 7, 12, 13, 30, 31], [], [0, 1, 2, 3, 4, 5, 7], [(11, 1), (29, 25)], [], [], [], [4, 5], false, none, []⟩, ⟨[0, 2, 3, 4, 12, 13], [], [0, 1, 2, 3, 4, 5], [(11, 1)], [], [], [], [4, 5], false, none, []⟩)]
def zmW (N : Nat) : GamK := gam (P := qP) [zq7 N, zC2 N]
def zR (N : Nat) : LSpec where
 X := qL × qL × Int × Int × Int × Int × Int × qL × Nat × qL × Nat × qA × qA × qL
 Y := (qL × Int × Int × qL × Nat × qL × Nat × qA × qA)
 p := λ s => zeT s.env.length 58 <| zeT s.nin 6 <| jg 1 (s.at 11) λ a0 => jg 25 (s.at 29) λ a1 => pFn 47 (s.at 0) λ c5 c6 => zV c5 <| zV c6 <| zbd 1 0 (s.at 2) <| zbd 2 0 (s.at 3) <| zbd 3 0 (s.at 4) <| Jo .i64 (s.at 6) λ a2 => zbd 7 0 (s.at 7) <| Jo .i64 (s.at 12) λ a3 => Jo .i64 (s.at 13) λ a4 => Jo .i64 (s.at 30) λ a5 => Jo .i64 (s.at 31) λ a6 => Z2 (s.bx 0) λ c17 => zl c17 λ c19 c20 => jg 1 c19 λ a7 => zV c20 <| Z2 (s.bx 1) λ c21 => zl c21 λ c23 c24 => zhn 4 1 c23 λ a8 => zV c24 <| Z2 (s.bx 2) λ c25 => zl c25 λ c27 c28 => jg 25 c27 λ a9 => zV c28 <| Z2 (s.bx 3) λ c29 => zl c29 λ c31 c32 => zhn 5 1 c31 λ a10 => zV c32 <| Z2 (s.bx 4) λ a11 => Z2 (s.bx 5) λ a12 => Z2 (s.bx 7) λ c35 => zl c35 λ c37 c38 => jg 29 c37 λ a13 => zV c38 <| some (a0, a1, a2, a3, a4, a5, a6, a7, a8, a9, a10, a11, a12, a13)
 st := λ u14 => mkS 58 [(11, (AV.list 1 u14.1 none)), (29, (AV.list 25 u14.2.1 none)), (0, (AV.fn (.func 47) [] [])), (2, (AV.ptr 1 0)), (3, (AV.ptr 2 0)), (4, (AV.ptr 3 0)), (6, (qI u14.2.2.1)), (7, (AV.ptr 7 0)), (12, (qI u14.2.2.2.1)), (13, (qI u14.2.2.2.2.1)), (30, (qI u14.2.2.2.2.2.1)), (31, (qI u14.2.2.2.2.2.2.1))] [(0, [(AV.list 1 u14.2.2.2.2.2.2.2.1 none)]), (1, [(AV.vs 4 0 u14.2.2.2.2.2.2.2.2.1 1)]), (2, [(AV.list 25 u14.2.2.2.2.2.2.2.2.2.1 none)]), (3, [(AV.vs 5 0 u14.2.2.2.2.2.2.2.2.2.2.1 1)]), (4, u14.2.2.2.2.2.2.2.2.2.2.2.1), (5, u14.2.2.2.2.2.2.2.2.2.2.2.2.1), (7, [(AV.list 29 u14.2.2.2.2.2.2.2.2.2.2.2.2.2 none)])] (Z5 14).1.toks 6
 out := λ y => (.exit 2, mkS 58 [(11, (AV.list 1 y.1 none)), (0, (AV.fn (.func 47) [] [])), (2, (AV.ptr 1 0)), (3, (AV.ptr 2 0)), (4, (AV.ptr 3 0)), (12, (qI y.2.1)), (13, (qI y.2.2.1))] [(0, [(AV.list 1 y.2.2.2.1 none)]), (1, [(AV.vs 4 0 y.2.2.2.2.1 1)]), (2, [(AV.list 25 y.2.2.2.2.2.1 none)]), (3, [(AV.vs 5 0 y.2.2.2.2.2.2.1 1)]), (4, y.2.2.2.2.2.2.2.1), (5, y.2.2.2.2.2.2.2.2)] (Z5 14).2.toks 6)
 b := λ u14 α kn ke => (match (decide (u14.2.2.2.2.2.2.1 < u14.2.2.2.2.2.1)) with | true => (if 0 <= u14.2.2.2.2.2.2.1 then (match u14.2.1[u14.2.2.2.2.2.2.1.toNat]? with | some c12 => (match zhD c12 with | some e13 => (if 0 <= u14.2.2.2.2.2.2.1 /\ u14.2.2.2.2.2.2.1 < (u14.2.2.2.2.2.2.2.2.2.2.1 : Int) then (match u14.2.2.2.2.2.2.2.2.2.2.2.2.1[((0 + u14.2.2.2.2.2.2.1.toNat) * 1)]? with | some x14 => (match x14 with | .v (.bool b15) => (match (!b15) with | true => (match zmC N u14.2.2.2.2.2.2.2.2.2.2.2.2.2 with | some y16 => (match zm2 N ((zx y16), e13) with | some y17 => (match y17 with | true => (if 0 <= u14.2.2.1 /\ u14.2.2.1 < (u14.2.2.2.2.2.2.2.2.1 : Int) then (if ((0 + u14.2.2.1.toNat) * 1) + 1 <= u14.2.2.2.2.2.2.2.2.2.2.2.1.length then (if 0 <= u14.2.2.2.2.2.2.1 /\ u14.2.2.2.2.2.2.1 < (u14.2.2.2.2.2.2.2.2.2.2.1 : Int) then (if ((0 + u14.2.2.2.2.2.2.1.toNat) * 1) + 1 <= u14.2.2.2.2.2.2.2.2.2.2.2.2.1.length then (ke (u14.1, u14.2.2.2.1, u14.2.2.2.2.1, u14.2.2.2.2.2.2.2.1, u14.2.2.2.2.2.2.2.2.1, u14.2.2.2.2.2.2.2.2.2.1, u14.2.2.2.2.2.2.2.2.2.2.1, ((splice u14.2.2.2.2.2.2.2.2.2.2.2.1 ((0 + u14.2.2.1.toNat) * 1) [(AV.v (.int .i64 u14.2.2.2.2.2.2.1))]).map dat0), ((splice u14.2.2.2.2.2.2.2.2.2.2.2.2.1 ((0 + u14.2.2.2.2.2.2.1.toNat) * 1) [(AV.v (.bool true))]).map dat0))) else none) else none) else none) else none) | false => (kn (u14.1, u14.2.1, u14.2.2.1, u14.2.2.2.1, u14.2.2.2.2.1, u14.2.2.2.2.2.1, (i64 (u14.2.2.2.2.2.2.1 + 1)), u14.2.2.2.2.2.2.2.1, u14.2.2.2.2.2.2.2.2.1, u14.2.2.2.2.2.2.2.2.2.1, u14.2.2.2.2.2.2.2.2.2.2.1, (u14.2.2.2.2.2.2.2.2.2.2.2.1.map dat0), (u14.2.2.2.2.2.2.2.2.2.2.2.2.1.map dat0), u14.2.2.2.2.2.2.2.2.2.2.2.2.2))) | none => none) | none => none) | false => (kn (u14.1, u14.2.1, u14.2.2.1, u14.2.2.2.1, u14.2.2.2.2.1, u14.2.2.2.2.2.1, (i64 (u14.2.2.2.2.2.2.1 + 1)), u14.2.2.2.2.2.2.2.1, u14.2.2.2.2.2.2.2.2.1, u14.2.2.2.2.2.2.2.2.2.1, u14.2.2.2.2.2.2.2.2.2.2.1, (u14.2.2.2.2.2.2.2.2.2.2.2.1.map dat0), (u14.2.2.2.2.2.2.2.2.2.2.2.2.1.map dat0), u14.2.2.2.2.2.2.2.2.2.2.2.2.2))) | _ => none) | none => none) else none) | none => none) | none => none) else none) | false => (ke (u14.1, u14.2.2.2.1, u14.2.2.2.2.1, u14.2.2.2.2.2.2.2.1, u14.2.2.2.2.2.2.2.2.1, u14.2.2.2.2.2.2.2.2.2.1, u14.2.2.2.2.2.2.2.2.2.2.1, (u14.2.2.2.2.2.2.2.2.2.2.2.1.map dat0), (u14.2.2.2.2.2.2.2.2.2.2.2.2.1.map dat0))))
abbrev ziD (N : Nat) (x : qL × qL × Int × Int × Int × Int × Int × qL × Nat × qL × Nat × qA × qA × qL) : Option ((qL × Int × Int × qL × Nat × qL × Nat × qA × qA)) := (zR N).L N x
def Zj (N : Nat) : LSpec where
 X := qL × Int × Int × qL × Nat × qL × Nat × qA × qA
 Y := (qL × Nat × qL × Nat × qA × qA)
 p := λ s => zeT s.env.length 58 <| zeT s.nin 6 <| jg 1 (s.at 11) λ a0 => pFn 47 (s.at 0) λ c4 c5 => zV c4 <| zV c5 <| zbd 1 0 (s.at 2) <| zbd 2 0 (s.at 3) <| zbd 3 0 (s.at 4) <| Jo .i64 (s.at 12) λ a1 => Jo .i64 (s.at 13) λ a2 => Z2 (s.bx 0) λ c12 => zl c12 λ c14 c15 => jg 1 c14 λ a3 => zV c15 <| Z2 (s.bx 1) λ c16 => zl c16 λ c18 c19 => zhn 4 1 c18 λ a4 => zV c19 <| Z2 (s.bx 2) λ c20 => zl c20 λ c22 c23 => jg 25 c22 λ a5 => zV c23 <| Z2 (s.bx 3) λ c24 => zl c24 λ c26 c27 => zhn 5 1 c26 λ a6 => zV c27 <| Z2 (s.bx 4) λ a7 => Z2 (s.bx 5) λ a8 => some (a0, a1, a2, a3, a4, a5, a6, a7, a8)
 st := λ u2 => mkS 58 [(11, (AV.list 1 u2.1 none)), (0, (AV.fn (.func 47) [] [])), (2, (AV.ptr 1 0)), (3, (AV.ptr 2 0)), (4, (AV.ptr 3 0)), (12, (qI u2.2.1)), (13, (qI u2.2.2.1))] [(0, [(AV.list 1 u2.2.2.2.1 none)]), (1, [(AV.vs 4 0 u2.2.2.2.2.1 1)]), (2, [(AV.list 25 u2.2.2.2.2.2.1 none)]), (3, [(AV.vs 5 0 u2.2.2.2.2.2.2.1 1)]), (4, u2.2.2.2.2.2.2.2.1), (5, u2.2.2.2.2.2.2.2.2)] (Z5 2).1.toks 6
 out := λ y => (.exit 0, mkS 58 [] [(0, [(AV.list 1 y.1 none)]), (1, [(AV.vs 4 0 y.2.1 1)]), (2, [(AV.list 25 y.2.2.1 none)]), (3, [(AV.vs 5 0 y.2.2.2.1 1)]), (4, y.2.2.2.2.1), (5, y.2.2.2.2.2)] (Z5 2).2.toks 6)
 b := λ u2 α kn ke => (match (decide (u2.2.2.1 < u2.2.1)) with | true => (if 0 <= u2.2.2.1 then (match u2.1[u2.2.2.1.toNat]? with | some c19 => (match zdO c19 with | some e20 => (if 0 <= u2.2.2.1 /\ u2.2.2.1 < (u2.2.2.2.2.1 : Int) then (match u2.2.2.2.2.2.2.2.1[((0 + u2.2.2.1.toNat) * 1)]? with | some x21 => (match x21 with | .v (.int q23 n22) => (if q23 = .i64 then (match (decide (n22 >= 0)) with | true => (kn (u2.1, u2.2.1, (i64 (u2.2.2.1 + 1)), u2.2.2.2.1, u2.2.2.2.2.1, u2.2.2.2.2.2.1, u2.2.2.2.2.2.2.1, (u2.2.2.2.2.2.2.2.1.map dat0), (u2.2.2.2.2.2.2.2.2.map dat0))) | false => (match ((e20.1.length : Int) == 0) with | true => (kn (u2.1, u2.2.1, (i64 (u2.2.2.1 + 1)), u2.2.2.2.1, u2.2.2.2.2.1, u2.2.2.2.2.2.1, u2.2.2.2.2.2.2.1, (u2.2.2.2.2.2.2.2.1.map dat0), (u2.2.2.2.2.2.2.2.2.map dat0))) | false => (match ziD N (u2.1, u2.2.2.2.2.2.1, u2.2.2.1, u2.2.1, u2.2.2.1, (u2.2.2.2.2.2.1.length : Int), 0, u2.2.2.2.1, u2.2.2.2.2.1, u2.2.2.2.2.2.1, u2.2.2.2.2.2.2.1, (u2.2.2.2.2.2.2.2.1.map dat0), (u2.2.2.2.2.2.2.2.2.map dat0), e20.1) with | some y24 => (kn (y24.1, y24.2.1, (i64 (y24.2.2.1 + 1)), y24.2.2.2.1, y24.2.2.2.2.1, y24.2.2.2.2.2.1, y24.2.2.2.2.2.2.1, (y24.2.2.2.2.2.2.2.1.map dat0), (y24.2.2.2.2.2.2.2.2.map dat0))) | none => none))) else none) | _ => none) | none => none) else none) | none => none) | none => none) else none) | false => (ke (u2.2.2.2.1, u2.2.2.2.2.1, u2.2.2.2.2.2.1, u2.2.2.2.2.2.2.1, (u2.2.2.2.2.2.2.2.1.map dat0), (u2.2.2.2.2.2.2.2.2.map dat0))))
abbrev zmV (N : Nat) (x : qL × Int × Int × qL × Nat × qL × Nat × qA × qA) : Option ((qL × Nat × qL × Nat × qA × qA)) := (Zj N).L N x
def zal (N : Nat) : FSpec where
 X := qL × Nat × qL × Nat × qA × qA
 Y := qL × Nat × qL × Nat × qA × qA
 ash := [[none], [none], [none], [none], [none]]
 bsh := [[some 1], [none], [some 25], [none], [], []]
 S := ⟨[], [[some 1], [some 2000001], [some 25], [some 2000001], [], []], [], [], [4, 5]⟩
 pat := λ a b => zl a λ v1 c2 => pFn 47 v1 λ c3 c4 => zV c3 <| zV c4 <| zl c2 λ v5 c6 => zbd 0 0 v5 <| zl c6 λ v7 c8 => zbd 1 0 v7 <| zl c8 λ v9 c10 => zbd 2 0 v9 <| zl c10 λ v11 c12 => zbd 3 0 v11 <| zV c12 <| zl b λ v13 c14 => zl v13 λ c15 c16 => jg 1 c15 λ a0 => zV c16 <| zl c14 λ v17 c18 => zl v17 λ c19 c20 => zhn 4 1 c19 λ a1 => zV c20 <| zl c18 λ v21 c22 => zl v21 λ c23 c24 => jg 25 c23 λ a2 => zV c24 <| zl c22 λ v25 c26 => zl v25 λ c27 c28 => zhn 5 1 c27 λ a3 => zV c28 <| zl c26 λ a4 c29 => zl c29 λ a5 c30 => zV c30 <| some (a0, a1, a2, a3, a4, a5)
 args := λ x => [(AV.fn (.func 47) [] []), (AV.ptr 0 0), (AV.ptr 1 0), (AV.ptr 2 0), (AV.ptr 3 0)]
 bs := λ x => [[(AV.list 1 x.1 none)], [(AV.vs 4 0 x.2.1 1)], [(AV.list 25 x.2.2.1 none)], [(AV.vs 5 0 x.2.2.2.1 1)], x.2.2.2.2.1, x.2.2.2.2.2]
 ret := λ y => ⟨(AV.tup []), [[(AV.list 1 y.1 none)], [(AV.vs 4 0 y.2.1 1)], [(AV.list 25 y.2.2.1 none)], [(AV.vs 5 0 y.2.2.2.1 1)], y.2.2.2.2.1, y.2.2.2.2.2], none, [], [], [4, 5], none⟩
 t := λ x α k => (match zmV N (x.1, (x.1.length : Int), 0, x.1, x.2.1, x.2.2.1, x.2.2.2.1, (x.2.2.2.2.1.map dat0), (x.2.2.2.2.2.map dat0)) with | some y25 => (k (y25.1, y25.2.1, y25.2.2.1, y25.2.2.2.1, (y25.2.2.2.2.1.map dat0), (y25.2.2.2.2.2.map dat0))) | none => none)
abbrev zmU (N : Nat) (x : qL × Nat × qL × Nat × qA × qA) : Option (qL × Nat × qL × Nat × qA × qA) := (zal N).d x
def JV (N : Nat) : List (Nat × LSpec) := [(2, Zj N), (14, zR N)]
def zaR : Code := Tryd.f45.body.getD .skip
theorem zkg (N : Nat) : Par (zR N).b := by
 intro x α β kn ke kn' ke' r r' h h1 h2
 revert h
 dsimp only [zR]
 (repeat' (first | (with_reducible refine ze ?_ ?_) | split)) <;> intro h <;> first | exact h1 _ h | exact h2 _ h | cases h
theorem zht (N : Nat) : Z3 (zn qP) (zmW N) Z5 N (JV N) 14 zaR (zR N) := λ x α kn ke => by kernel_rfl
theorem zkh (N : Nat) (s : AS) (x : (zR N).X) (hc : s = ZJ (Z5 14).1 s) (h : (zR N).p s = some x) : s = (zR N).st x := by
 replace h : zeT _ _ _ = some x := h
 obtain ⟨h1, g0⟩ := jB h
 obtain ⟨h2, g1⟩ := jB g0; clear g0
 obtain ⟨a0, h3, g2⟩ := zr g1; clear g1
 obtain ⟨a1, h4, g3⟩ := zr g2; clear g2
 obtain ⟨c5, c6, h7, g4⟩ := zau g3; clear g3
 obtain ⟨rfl, g5⟩ := zi g4; clear g4
 obtain ⟨rfl, g6⟩ := zi g5; clear g5
 obtain ⟨h8, g7⟩ := Zb g6; clear g6
 obtain ⟨h9, g8⟩ := Zb g7; clear g7
 obtain ⟨h10, g9⟩ := Zb g8; clear g8
 obtain ⟨a2, h11, g10⟩ := zJ g9; clear g9
 obtain ⟨h12, g11⟩ := Zb g10; clear g10
 obtain ⟨a3, h13, g12⟩ := zJ g11; clear g11
 obtain ⟨a4, h14, g13⟩ := zJ g12; clear g12
 obtain ⟨a5, h15, g14⟩ := zJ g13; clear g13
 obtain ⟨a6, h16, g15⟩ := zJ g14; clear g14
 obtain ⟨c17, h18, g16⟩ := zN g15; clear g15
 obtain ⟨c19, c20, rfl, g17⟩ := zd g16; clear g16
 obtain ⟨a7, rfl, g18⟩ := zr g17; clear g17
 obtain ⟨rfl, g19⟩ := zi g18; clear g18
 obtain ⟨c21, h22, g20⟩ := zN g19; clear g19
 obtain ⟨c23, c24, rfl, g21⟩ := zd g20; clear g20
 obtain ⟨a8, rfl, g22⟩ := jl g21; clear g21
 obtain ⟨rfl, g23⟩ := zi g22; clear g22
 obtain ⟨c25, h26, g24⟩ := zN g23; clear g23
 obtain ⟨c27, c28, rfl, g25⟩ := zd g24; clear g24
 obtain ⟨a9, rfl, g26⟩ := zr g25; clear g25
 obtain ⟨rfl, g27⟩ := zi g26; clear g26
 obtain ⟨c29, h30, g28⟩ := zN g27; clear g27
 obtain ⟨c31, c32, rfl, g29⟩ := zd g28; clear g28
 obtain ⟨a10, rfl, g30⟩ := jl g29; clear g29
 obtain ⟨rfl, g31⟩ := zi g30; clear g30
 obtain ⟨a11, h33, g32⟩ := zN g31; clear g31
 obtain ⟨a12, h34, g33⟩ := zN g32; clear g32
 obtain ⟨c35, h36, g34⟩ := zN g33; clear g33
 obtain ⟨c37, c38, rfl, g35⟩ := zd g34; clear g34
 obtain ⟨a13, rfl, g36⟩ := zr g35; clear g35
 obtain ⟨rfl, g37⟩ := zi g36; clear g36
 clear h
 cases g37
 exact JD hc h1 h2 rfl rfl rfl rfl ⟨h3, h4, h7, h8, h9, h10, h11, h12, h13, h14, h15, h16, trivial⟩ ⟨h18, h22, h26, h30, h33, h34, h36, trivial⟩
theorem zcP (N : Nat) : ZB qP Z5 N (JV N) 14 (zb 14 zaR) :=
 zD (zc qP) (zh _) zk Z5 N (JV N) 14 zaR (l := []) (by kernel_rfl) (by kernel_rfl) an (zR N) rfl (zkh N) (λ _ => rfl) (zht N) (zkg N)
theorem zmX (N : Nat) : Par (Zj N).b := by
 intro x α β kn ke kn' ke' r r' h h1 h2
 revert h
 dsimp only [Zj]
 (repeat' (first | (with_reducible refine ze ?_ ?_) | split)) <;> intro h <;> first | exact h1 _ h | exact h2 _ h | cases h
theorem zke (N : Nat) : Z3 (zn qP) (zmW N) Z5 N (JV N) 2 zaR (Zj N) := λ x α kn ke => by kernel_rfl
theorem zmZ (N : Nat) (s : AS) (x : (Zj N).X) (hc : s = ZJ (Z5 2).1 s) (h : (Zj N).p s = some x) : s = (Zj N).st x := by
 replace h : zeT _ _ _ = some x := h
 obtain ⟨h1, g0⟩ := jB h
 obtain ⟨h2, g1⟩ := jB g0; clear g0
 obtain ⟨a0, h3, g2⟩ := zr g1; clear g1
 obtain ⟨c4, c5, h6, g3⟩ := zau g2; clear g2
 obtain ⟨rfl, g4⟩ := zi g3; clear g3
 obtain ⟨rfl, g5⟩ := zi g4; clear g4
 obtain ⟨h7, g6⟩ := Zb g5; clear g5
 obtain ⟨h8, g7⟩ := Zb g6; clear g6
 obtain ⟨h9, g8⟩ := Zb g7; clear g7
 obtain ⟨a1, h10, g9⟩ := zJ g8; clear g8
 obtain ⟨a2, h11, g10⟩ := zJ g9; clear g9
 obtain ⟨c12, h13, g11⟩ := zN g10; clear g10
 obtain ⟨c14, c15, rfl, g12⟩ := zd g11; clear g11
 obtain ⟨a3, rfl, g13⟩ := zr g12; clear g12
 obtain ⟨rfl, g14⟩ := zi g13; clear g13
 obtain ⟨c16, h17, g15⟩ := zN g14; clear g14
 obtain ⟨c18, c19, rfl, g16⟩ := zd g15; clear g15
 obtain ⟨a4, rfl, g17⟩ := jl g16; clear g16
 obtain ⟨rfl, g18⟩ := zi g17; clear g17
 obtain ⟨c20, h21, g19⟩ := zN g18; clear g18
 obtain ⟨c22, c23, rfl, g20⟩ := zd g19; clear g19
 obtain ⟨a5, rfl, g21⟩ := zr g20; clear g20
 obtain ⟨rfl, g22⟩ := zi g21; clear g21
 obtain ⟨c24, h25, g23⟩ := zN g22; clear g22
 obtain ⟨c26, c27, rfl, g24⟩ := zd g23; clear g23
 obtain ⟨a6, rfl, g25⟩ := jl g24; clear g24
 obtain ⟨rfl, g26⟩ := zi g25; clear g25
 obtain ⟨a7, h28, g27⟩ := zN g26; clear g26
 obtain ⟨a8, h29, g28⟩ := zN g27; clear g27
 clear h
 cases g28
 exact JD hc h1 h2 rfl rfl rfl rfl ⟨h3, h6, h7, h8, h9, h10, h11, trivial⟩ ⟨h13, h17, h21, h25, h28, h29, trivial⟩
theorem zkf (N : Nat) : ZB qP Z5 N (JV N) 2 (zb 2 zaR) :=
 zD (zc qP) (zh _) zk Z5 N (JV N) 2 zaR (l := [(14, zb 14 zaR)]) (by kernel_rfl) (by kernel_rfl) (al (zcP N) an) (Zj N) rfl (zmZ N) (λ _ => rfl) (zke N) (zmX N)
theorem zmY (N : Nat) : Zd (zal N).t := by
 intro x α β k k' r r' h h1
 revert h
 dsimp only [zal]
 (repeat' (first | (with_reducible refine ze ?_ ?_) | split)) <;> intro h <;> first | exact h1 _ h | cases h
theorem zm0 (N : Nat) : Zg (zn qP) (zmW N) Z5 (lam N (JV N)) Tryd.f45 (zal N) := λ x => by kernel_rfl
theorem zrA (N : Nat) (a : List AV) (b : qL) (x : (zal N).X) (h : (zal N).pat a b = some x) : a = (zal N).args x /\ b = (zal N).bs x := by
 obtain ⟨v1, c2, rfl, g0⟩ := zd (show zl _ _ = some x from h)
 obtain ⟨c3, c4, rfl, g1⟩ := zau g0; clear g0
 obtain ⟨rfl, g2⟩ := zi g1; clear g1
 obtain ⟨rfl, g3⟩ := zi g2; clear g2
 obtain ⟨v5, c6, rfl, g4⟩ := zd g3; clear g3
 obtain ⟨rfl, g5⟩ := Zb g4; clear g4
 obtain ⟨v7, c8, rfl, g6⟩ := zd g5; clear g5
 obtain ⟨rfl, g7⟩ := Zb g6; clear g6
 obtain ⟨v9, c10, rfl, g8⟩ := zd g7; clear g7
 obtain ⟨rfl, g9⟩ := Zb g8; clear g8
 obtain ⟨v11, c12, rfl, g10⟩ := zd g9; clear g9
 obtain ⟨rfl, g11⟩ := Zb g10; clear g10
 obtain ⟨rfl, g12⟩ := zi g11; clear g11
 obtain ⟨v13, c14, rfl, g13⟩ := zd g12; clear g12
 obtain ⟨c15, c16, rfl, g14⟩ := zd g13; clear g13
 obtain ⟨a0, rfl, g15⟩ := zr g14; clear g14
 obtain ⟨rfl, g16⟩ := zi g15; clear g15
 obtain ⟨v17, c18, rfl, g17⟩ := zd g16; clear g16
 obtain ⟨c19, c20, rfl, g18⟩ := zd g17; clear g17
 obtain ⟨a1, rfl, g19⟩ := jl g18; clear g18
 obtain ⟨rfl, g20⟩ := zi g19; clear g19
 obtain ⟨v21, c22, rfl, g21⟩ := zd g20; clear g20
 obtain ⟨c23, c24, rfl, g22⟩ := zd g21; clear g21
 obtain ⟨a2, rfl, g23⟩ := zr g22; clear g22
 obtain ⟨rfl, g24⟩ := zi g23; clear g23
 obtain ⟨v25, c26, rfl, g25⟩ := zd g24; clear g24
 obtain ⟨c27, c28, rfl, g26⟩ := zd g25; clear g25
 obtain ⟨a3, rfl, g27⟩ := jl g26; clear g26
 obtain ⟨rfl, g28⟩ := zi g27; clear g27
 obtain ⟨a4, c29, rfl, g29⟩ := zd g28; clear g28
 obtain ⟨a5, c30, rfl, g30⟩ := zd g29; clear g29
 obtain ⟨rfl, g31⟩ := zi g30; clear g30
 clear h
 cases g31
 exact ⟨rfl, rfl⟩
def zz6 (N : Nat) : Ent qP := zA (zc qP) (zh _) zk 45 Tryd.f45 Tryd.func45 rfl Z5 (lam N (JV N)) (zm (l := [(2, zb 2 zaR), (14, zb 14 zaR)]) (al (zkf N) (al (zcP N) an)) (by kernel_rfl)) (zal N) (λ _ => ⟨rfl, rfl⟩) (zm0 N) (zrA N) (zmY N)
def zvy : Nat -> Keep × Keep := anF [] [(100006, ([], [((5, 0), 1)]))]
def zCw (N : Nat) : GamK := gam (P := qP) [zz5 N, zCZ N, zz6 N]
def zdR (N : Nat) : FSpec where
 X := qL × qL
 Y := qL
 ash := [[some 1], [some 25]]
 S := ⟨[[some 2000001]], [], [], [], []⟩
 pat := λ a b => zl a λ v1 c2 => jA v1 λ c3 => zl c3 λ c4 c5 => jg 1 c4 λ a0 => zV c5 <| zl c2 λ v6 c7 => jg 25 v6 λ a1 => zV c7 <| zV b <| some (a0, a1)
 args := λ x => [(AV.agg [(AV.list 1 x.1 none)]), (AV.list 25 x.2 none)]
 ret := λ y => ⟨(AV.list 1 y (some 2560000000)), [], none, [], [2560000000], [], none⟩
 t := λ x α k => (match zvW N ([[(AV.v (.int .i64 (-1)))]], (x.1.length : Int)) with | some y1 => (if 0 <= (x.2.length : Int) /\ (x.2.length : Int) <= (x.2.length : Int) /\ (x.2.length : Int).toNat * 1 <= zg then (match zxz N (x.1, y1.1, x.2, ((x.2.length : Int).toNat), ((y1.2.map dat0).map dat0), ((List.replicate (x.2.length : Int).toNat (AV.v (.bool false))).map dat0)) with | some y2 => (match zmU N (y2.1, y2.2.1, y2.2.2.1, y2.2.2.2.1, (y2.2.2.2.2.1.map dat0), (y2.2.2.2.2.2.map dat0)) with | some y3 => (if y3.2.1 * 1 <= y3.2.2.2.2.1.length then (k (zK (y3.2.2.2.2.1.take (y3.2.1 * 1)) 1 y3.2.1)) else none) | none => none) | none => none) else none) | none => none)
abbrev zl3 (N : Nat) (x : qL × qL) : Option (qL) := (zdR N).d x
theorem zqp (N : Nat) : Zd (zdR N).t := by
 intro x α β k k' r r' h h1
 revert h
 dsimp only [zdR]
 (repeat' (first | (with_reducible refine ze ?_ ?_) | split)) <;> intro h <;> first | exact h1 _ h | cases h
theorem zqq (N : Nat) : Zg (JQ qP [12]) (zCw N) zvy (lam N []) Tryd.f13 (zdR N) := λ x => by kernel_rfl
theorem zxc (N : Nat) (a : List AV) (b : qL) (x : (zdR N).X) (h : (zdR N).pat a b = some x) : a = (zdR N).args x /\ b = (zdR N).bs x := by
 obtain ⟨v1, c2, rfl, g0⟩ := zd (show zl _ _ = some x from h)
 obtain ⟨c3, rfl, g1⟩ := zW g0; clear g0
 obtain ⟨c4, c5, rfl, g2⟩ := zd g1; clear g1
 obtain ⟨a0, rfl, g3⟩ := zr g2; clear g2
 obtain ⟨rfl, g4⟩ := zi g3; clear g3
 obtain ⟨v6, c7, rfl, g5⟩ := zd g4; clear g4
 obtain ⟨a1, rfl, g6⟩ := zr g5; clear g5
 obtain ⟨rfl, g7⟩ := zi g6; clear g6
 obtain ⟨rfl, g8⟩ := zi g7; clear g7
 clear h
 cases g8
 exact ⟨rfl, rfl⟩
def zzG (N : Nat) : Ent qP := zA (zL qP [12]) (zh _) zk 13 Tryd.f13 Tryd.func13 rfl zvy (lam N []) (zm (l := []) an (by kernel_rfl)) (zdR N) (λ _ => ⟨rfl, rfl⟩) (zqq N) (zxc N) (zqp N)
end
end Go.Proofs.YthdgnfcbehcplaaDoor
end
section
namespace Go.Proofs.YthdgnfcbehcplaaDoor
noncomputable section
open Go.RowKit
set_option maxRecDepth 4000
set_option maxHeartbeats 4000000
def zwt : Nat -> Keep × Keep := anL []
def zDy (N : Nat) : GamK := gam (P := qP) []
def zfg (N : Nat) : FSpec where
 X := qL × Int
 Y := Bool
 ash := [[some 1], [none]]
 S := ⟨[[none]], [], [], [], []⟩
 pat := λ a b => zl a λ v1 c2 => jA v1 λ c3 => zl c3 λ c4 c5 => jg 1 c4 λ a0 => zV c5 <| zl c2 λ v6 c7 => Jo .i64 v6 λ a1 => zV c7 <| zV b <| some (a0, a1)
 args := λ x => [(AV.agg [(AV.list 1 x.1 none)]), (AV.v (.int .i64 x.2))]
 ret := λ y => ⟨(AV.v (.bool y)), [], none, [], [], [], none⟩
 t := λ x α k => (match (decide (x.2 >= 0)) with | true => (k (decide (x.2 < (x.1.length : Int)))) | false => (k false))
abbrev zAD (N : Nat) (x : qL × Int) : Option (Bool) := (zfg N).d x
theorem zsR (N : Nat) : Zd (zfg N).t := by
 intro x α β k k' r r' h h1
 revert h
 dsimp only [zfg]
 (repeat' (first | (with_reducible refine ze ?_ ?_) | split)) <;> intro h <;> first | exact h1 _ h | cases h
theorem zsS (N : Nat) : Zg (zn qP) (zDy N) zwt (lam N []) Tryd.f75 (zfg N) := λ x => by kernel_rfl
theorem zxX (N : Nat) (a : List AV) (b : qL) (x : (zfg N).X) (h : (zfg N).pat a b = some x) : a = (zfg N).args x /\ b = (zfg N).bs x := by
 obtain ⟨v1, c2, rfl, g0⟩ := zd (show zl _ _ = some x from h)
 obtain ⟨c3, rfl, g1⟩ := zW g0; clear g0
 obtain ⟨c4, c5, rfl, g2⟩ := zd g1; clear g1
 obtain ⟨a0, rfl, g3⟩ := zr g2; clear g2
 obtain ⟨rfl, g4⟩ := zi g3; clear g3
 obtain ⟨v6, c7, rfl, g5⟩ := zd g4; clear g4
 obtain ⟨a1, rfl, g6⟩ := zJ g5; clear g5
 obtain ⟨rfl, g7⟩ := zi g6; clear g6
 obtain ⟨rfl, g8⟩ := zi g7; clear g7
 clear h
 cases g8
 exact ⟨rfl, rfl⟩
def zDx (N : Nat) : Ent qP := zA (zc qP) (zh _) zk 75 Tryd.f75 Tryd.func75 rfl zwt (lam N []) (zm (l := []) an (by kernel_rfl)) (zfg N) (λ _ => ⟨rfl, rfl⟩) (zsS N) (zxX N) (zsR N)
def zvR : Nat -> Keep × Keep := anL []
def zCR (N : Nat) : GamK := gam (P := qP) []
def zmD (N : Nat) : FSpec where
 X := Int
 Y := Bool
 ash := [[none]]
 S := ⟨[[none]], [], [], [], []⟩
 pat := λ a b => rdA [.int .i64] [] a b λ ⟨a0, _⟩ _ => a0
 args := λ x => [(AV.v (.int .i64 x))]
 ret := λ y => ⟨(AV.v (.bool y)), [], none, [], [], [], none⟩
 t := λ x α k => (if 0 <= x /\ x < 7 then (match ((gtab3.map AV.v).drop (x.toNat * 1))[0]? with | some x1 => (match x1 with | .v (.bool b2) => (match b2 with | true => (k true) | false => (k (x == 6))) | _ => none) | none => none) else none)
abbrev zra (N : Nat) (x : Int) : Option (Bool) := (zmD N).d x
theorem zrb (N : Nat) : Zd (zmD N).t := by
 intro x α β k k' r r' h h1
 revert h
 dsimp only [zmD]
 (repeat' (first | (with_reducible refine ze ?_ ?_) | split)) <;> intro h <;> first | exact h1 _ h | cases h
theorem zrc (N : Nat) : Zg (zn qP) (zCR N) zvR (lam N []) Tryd.f37 (zmD N) := λ x => by kernel_rfl
def zzV (N : Nat) : Ent qP := zA (zc qP) (zh _) zk 37 Tryd.f37 Tryd.func37 rfl zvR (lam N []) (zm (l := []) an (by kernel_rfl)) (zmD N) (λ _ => ⟨rfl, rfl⟩) (zrc N) (λ _ _ _ h => zw h (λ _ _ => rfl) (λ _ _ => rfl)) (zrb N)
def jx : Nat -> Keep × Keep := anL [(5, ⟨[2, 3, 11, 12], [], [2, 3], [(10, 1)], [((2, 0), 1)], [], [((3, 0), 1)], [], false, some 2012288, []⟩, ⟨[2, 3], [], [2, 3], [], [((2, 0), 1)], [], [((3, 0), 1)], [], false, some 2012288, []⟩), (16, ⟨[2, 3, 11, 12, 18, 19], [(6, 29)], [2, 3], [(10, 1), (17, 29)], [((2, 0), 1)], [], [((3, 0), 1)], [], false, some 2012288, []⟩, ⟨[2, 3, 11, 12], [(6, 29)], [2, 3], [(10, 1)], [((2, 0), 1)], [], [((3, 0), 1)], [], false, some 2012288, []⟩)]
def zmy (N : Nat) : GamK := gam (P := qP) [zrf N]
def Zq (N : Nat) : LSpec where
 X := qL × qL × qL × Int × Int × Int × Int × qL × Nat × qA × Nat × Nat
 Y := (qL × qL × Int × Int × qL × Nat × qA × Nat × Nat)
 p := λ s => rdF 41 0 2012288 [(6, .tok 29 1280000384), (10, .lst 1), (17, .lst 29), (2, .ptr 2 0), (3, .ptr 3 0), (11, .int .i64), (12, .int .i64), (18, .int .i64), (19, .int .i64)] [(2, .cells [.tok 1 6400524288]), (3, .cells [.vs0 2012288 1]), (2012288, .tt)] s λ ⟨a0, a1, a2, _, _, a3, a4, a5, a6, _⟩ ⟨⟨a7, _⟩, ⟨a8, _⟩, a9, _⟩ a10 a11 => (a0, a1, a2, a3, a4, a5, a6, a7, a8, a9, a10, a11)
 st := λ u16 => mkF 41 [(6, (AV.list 29 u16.1 (some 1280000384))), (10, (AV.list 1 u16.2.1 none)), (17, (AV.list 29 u16.2.2.1 none)), (2, (AV.ptr 2 0)), (3, (AV.ptr 3 0)), (11, (qI u16.2.2.2.1)), (12, (qI u16.2.2.2.2.1)), (18, (qI u16.2.2.2.2.2.1)), (19, (qI u16.2.2.2.2.2.2.1))] [(2, [(AV.list 1 u16.2.2.2.2.2.2.2.1 (some 6400524288))]), (3, [(AV.vs 2012288 0 u16.2.2.2.2.2.2.2.2.1 1)]), (2012288, u16.2.2.2.2.2.2.2.2.2.1)] (jx 16).1.toks 0 (some (2012288, u16.2.2.2.2.2.2.2.2.2.2.1, u16.2.2.2.2.2.2.2.2.2.2.2))
 out := λ y => (.exit 2, mkF 41 [(6, (AV.list 29 y.1 (some 1280000384))), (10, (AV.list 1 y.2.1 none)), (2, (AV.ptr 2 0)), (3, (AV.ptr 3 0)), (11, (qI y.2.2.1)), (12, (qI y.2.2.2.1))] [(2, [(AV.list 1 y.2.2.2.2.1 (some 6400524288))]), (3, [(AV.vs 2012288 0 y.2.2.2.2.2.1 1)]), (2012288, y.2.2.2.2.2.2.1)] (jx 16).2.toks 0 (some (2012288, y.2.2.2.2.2.2.2.1, y.2.2.2.2.2.2.2.2)))
 b := λ u16 α kn ke => (match (decide (u16.2.2.2.2.2.2.1 < u16.2.2.2.2.2.1)) with | true => (if 0 <= u16.2.2.2.2.2.2.1 then (match u16.2.2.1[u16.2.2.2.2.2.2.1.toNat]? with | some c6 => (match zkY c6 with | some e7 => (match zdW N (zx e7) with | some y8 => (if (u16.1.length + [(zQ (e7.1, e7.2.1, e7.2.2.1, e7.2.2.2.1, y8))].length) * 288 <= zg then (kn ((u16.1 ++ [(zQ (e7.1, e7.2.1, e7.2.2.1, e7.2.2.2.1, y8))]), u16.2.1, u16.2.2.1, u16.2.2.2.1, u16.2.2.2.2.1, u16.2.2.2.2.2.1, (i64 (u16.2.2.2.2.2.2.1 + 1)), u16.2.2.2.2.2.2.2.1, u16.2.2.2.2.2.2.2.2.1, (u16.2.2.2.2.2.2.2.2.2.1.map datF), u16.2.2.2.2.2.2.2.2.2.2)) else none) | none => none) | none => none) | none => none) else none) | false => (ke (u16.1, u16.2.1, u16.2.2.2.1, u16.2.2.2.2.1, u16.2.2.2.2.2.2.2.1, u16.2.2.2.2.2.2.2.2.1, (u16.2.2.2.2.2.2.2.2.2.1.map datF), u16.2.2.2.2.2.2.2.2.2.2)))
abbrev ziB (N : Nat) (x : qL × qL × qL × Int × Int × Int × Int × qL × Nat × qA × Nat × Nat) : Option ((qL × qL × Int × Int × qL × Nat × qA × Nat × Nat)) := (Zq N).L N x
def ZP (N : Nat) : LSpec where
 X := qL × Int × Int × qL × Nat × qA × Nat × Nat
 Y := (qL × Nat × qA × Nat × Nat)
 p := λ s => rdF 41 0 2012288 [(10, .lst 1), (2, .ptr 2 0), (3, .ptr 3 0), (11, .int .i64), (12, .int .i64)] [(2, .cells [.tok 1 6400524288]), (3, .cells [.vs0 2012288 1]), (2012288, .tt)] s λ ⟨a0, _, _, a1, a2, _⟩ ⟨⟨a3, _⟩, ⟨a4, _⟩, a5, _⟩ a6 a7 => (a0, a1, a2, a3, a4, a5, a6, a7)
 st := λ u5 => mkF 41 [(10, (AV.list 1 u5.1 none)), (2, (AV.ptr 2 0)), (3, (AV.ptr 3 0)), (11, (qI u5.2.1)), (12, (qI u5.2.2.1))] [(2, [(AV.list 1 u5.2.2.2.1 (some 6400524288))]), (3, [(AV.vs 2012288 0 u5.2.2.2.2.1 1)]), (2012288, u5.2.2.2.2.2.1)] (jx 5).1.toks 0 (some (2012288, u5.2.2.2.2.2.2.1, u5.2.2.2.2.2.2.2))
 out := λ y => (.exit 0, mkF 41 [(2, (AV.ptr 2 0)), (3, (AV.ptr 3 0))] [(2, [(AV.list 1 y.1 (some 6400524288))]), (3, [(AV.vs 2012288 0 y.2.1 1)]), (2012288, y.2.2.1)] (jx 5).2.toks 0 (some (2012288, y.2.2.2.1, y.2.2.2.2)))
 b := λ u5 α kn ke => (match (decide (u5.2.2.1 < u5.2.1)) with | true => (if 0 <= u5.2.2.1 then (match u5.1[u5.2.2.1.toNat]? with | some c10 => (match zdO c10 with | some e11 => (match ziB N (([] : qL), u5.1, e11.1, u5.2.1, u5.2.2.1, (e11.1.length : Int), 0, u5.2.2.2.1, u5.2.2.2.2.1, (u5.2.2.2.2.2.1.map datF), u5.2.2.2.2.2.2) with | some y12 => (if (y12.2.2.2.2.2.2.2.2 = y12.2.2.2.2.2.1 /\ y12.2.2.2.2.2.2.2.1 <= y12.2.2.2.2.2.2.2.2) /\ y12.2.2.2.2.2.1 * 1 <= y12.2.2.2.2.2.2.1.length /\ (y12.2.2.2.2.2.1 + 1) * 24 <= zg then (kn (y12.2.1, y12.2.2.1, (i64 (y12.2.2.2.1 + 1)), y12.2.2.2.2.1, (y12.2.2.2.2.2.1 + 1), ((y12.2.2.2.2.2.2.1.take (y12.2.2.2.2.2.1 * 1) ++ [AV.list 29 y12.1 (some (TOB + y12.2.2.2.2.2.2.2.2))]).map datF), y12.2.2.2.2.2.2.2.1, (y12.2.2.2.2.2.2.2.2 + 1))) else none) | none => none) | none => none) | none => none) else none) | false => (ke (u5.2.2.2.1, u5.2.2.2.2.1, (u5.2.2.2.2.2.1.map datF), u5.2.2.2.2.2.2)))
abbrev zmx (N : Nat) (x : qL × Int × Int × qL × Nat × qA × Nat × Nat) : Option ((qL × Nat × qA × Nat × Nat)) := (ZP N).L N x
def zak (N : Nat) : FSpec where
 X := qL
 Y := Nat × qA × Nat × Nat
 ash := [[some 1]]
 S := ⟨[[some 1]], [], [], [], []⟩
 bm := true
 pat := λ a b => zl a λ v1 c2 => jA v1 λ c3 => zl c3 λ c4 c5 => jg 1 c4 λ a0 => zV c5 <| zV c2 <| zV b <| some a0
 args := λ x => [(AV.agg [(AV.list 1 x none)])]
 ret := λ y => ⟨(AV.agg [(AV.vs 0 0 y.1 1)]), [], some y.2.1, [], [], [], some (y.2.2.1, y.2.2.2)⟩
 t := λ x α k => (match zmx N (x, (x.length : Int), 0, ([] : qL), 0, ([] : List AV), 0, 0) with | some y13 => (k (y13.2.1, (y13.2.2.1.map datF), y13.2.2.2)) | none => none)
abbrev ziA (N : Nat) (x : qL) : Option (Nat × qA × Nat × Nat) := (zak N).d x
def JU (N : Nat) : List (Nat × LSpec) := [(5, ZP N), (16, Zq N)]
def zaQ : Code := Tryd.f35.body.getD .skip
theorem zj6 (N : Nat) : Par (Zq N).b := by
 intro x α β kn ke kn' ke' r r' h h1 h2
 revert h
 dsimp only [Zq]
 (repeat' (first | (with_reducible refine ze ?_ ?_) | split)) <;> intro h <;> first | exact h1 _ h | exact h2 _ h | cases h
theorem zhq (N : Nat) : Z3 (JQ qP [36, 37]) (zmy N) jx N (JU N) 16 zaQ (Zq N) := λ x α kn ke => by kernel_rfl
theorem zcK (N : Nat) : ZB qP jx N (JU N) 16 (zb 16 zaQ) :=
 zD (zL qP [36, 37]) (zh _) zk jx N (JU N) 16 zaQ (l := []) (by kernel_rfl) (by kernel_rfl) an (Zq N) rfl (λ s x hc h => by dsimp only [Zq] at h; exact za9 hc h (λ _ _ _ _ => rfl) rfl rfl) (λ _ => rfl) (zhq N) (zj6 N)
theorem zmz (N : Nat) : Par (ZP N).b := by
 intro x α β kn ke kn' ke' r r' h h1 h2
 revert h
 dsimp only [ZP]
 (repeat' (first | (with_reducible refine ze ?_ ?_) | split)) <;> intro h <;> first | exact h1 _ h | exact h2 _ h | cases h
theorem zj4 (N : Nat) : Z3 (JQ qP [36, 37]) (zmy N) jx N (JU N) 5 zaQ (ZP N) := λ x α kn ke => by kernel_rfl
theorem zj5 (N : Nat) : ZB qP jx N (JU N) 5 (zb 5 zaQ) :=
 zD (zL qP [36, 37]) (zh _) zk jx N (JU N) 5 zaQ (l := [(16, zb 16 zaQ)]) (by kernel_rfl) (by kernel_rfl) (al (zcK N) an) (ZP N) rfl (λ s x hc h => by dsimp only [ZP] at h; exact za9 hc h (λ _ _ _ _ => rfl) rfl rfl) (λ _ => rfl) (zj4 N) (zmz N)
theorem zmA (N : Nat) : Zd (zak N).t := by
 intro x α β k k' r r' h h1
 revert h
 dsimp only [zak]
 (repeat' (first | (with_reducible refine ze ?_ ?_) | split)) <;> intro h <;> first | exact h1 _ h | cases h
theorem zmB (N : Nat) : Zg (JQ qP [36, 37]) (zmy N) jx (lam N (JU N)) Tryd.f35 (zak N) := λ x => by kernel_rfl
theorem zq6 (N : Nat) (a : List AV) (b : qL) (x : (zak N).X) (h : (zak N).pat a b = some x) : a = (zak N).args x /\ b = (zak N).bs x := by
 obtain ⟨v1, c2, rfl, g0⟩ := zd (show zl _ _ = some x from h)
 obtain ⟨c3, rfl, g1⟩ := zW g0; clear g0
 obtain ⟨c4, c5, rfl, g2⟩ := zd g1; clear g1
 obtain ⟨a0, rfl, g3⟩ := zr g2; clear g2
 obtain ⟨rfl, g4⟩ := zi g3; clear g3
 obtain ⟨rfl, g5⟩ := zi g4; clear g4
 obtain ⟨rfl, g6⟩ := zi g5; clear g5
 clear h
 cases g6
 exact ⟨rfl, rfl⟩
def zvP (N : Nat) : Ent qP := zA (zL qP [36, 37]) (zh _) zk 35 Tryd.f35 Tryd.func35 rfl jx (lam N (JU N)) (zm (l := [(5, zb 5 zaQ), (16, zb 16 zaQ)]) (al (zj5 N) (al (zcK N) an)) (by kernel_rfl)) (zak N) (λ _ => ⟨rfl, rfl⟩) (zmB N) (zq6 N) (zmA N)
def ZG : Nat -> Keep × Keep := anF [(2, ⟨[1, 3, 5, 6], [], [3, 5, 6], [], [((6, 0), 1)], [], [], [], true, none, []⟩, ⟨[1, 3, 5, 6, 7], [], [3, 5, 6], [], [((6, 0), 1)], [], [], [], false, none, []⟩), (6, ⟨[1, 3, 5, 6], [], [3, 5, 6], [], [((6, 0), 1)], [], [], [], true, none, []⟩, ⟨[1, 3, 5, 6, 7], [], [3, 5, 6], [], [((6, 0), 1)], [], [], [], false, none, []⟩), (18, ⟨[1, 3, 5, 6, 9], [], [3, 5, 6, 9], [], [((6, 0), 1)], [], [], [], true, none, []⟩, ⟨[1, 3, 5, 6, 9, 63], [], [3, 5, 6, 9], [], [((6, 0), 1)], [], [], [], false, none, []⟩), (27, ⟨[1, 3, 5, 6, 9, 95], [], [3, 5, 6, 9], [], [((6, 0), 1)], [], [], [], true, none, []⟩, ⟨[1, 3, 5, 6], [], [3, 5, 6], [], [((6, 0), 1)], [], [], [], false, none, []⟩)] [(100019, ([], [((10, 0), 1)]))]
def znn (N : Nat) : GamK := gam (P := qP) [zqr N, zAz N, zAx N, zDx N, zzU N, zq7 N, zzV N, zrf N, zvP N]
def zaB (N : Nat) : LSpec where
 X := Int × Bool × qL × RT7 × qL × RT7
 Y := (Int × qL × RT7 × qL)
 p := λ s => rdS 120 0 [(1, .int .i64), (3, .ptr 3 0), (5, .ptr 5 0), (6, .ptr 6 0), (9, .ptr 9 0), (95, .bool)] [(3, .cells [.lst 1]), (5, .row RK7), (6, .cells [.tok 1 6401572864]), (9, .row RK7)] s λ ⟨a0, _, _, _, _, a1, _⟩ ⟨⟨a2, _⟩, a3, ⟨a4, _⟩, a5, _⟩ => (a0, a1, a2, a3, a4, a5)
 st := λ u27 => mkS 120 [(1, (qI u27.1)), (3, (AV.ptr 3 0)), (5, (AV.ptr 5 0)), (6, (AV.ptr 6 0)), (9, (AV.ptr 9 0)), (95, (AV.v (.bool u27.2.1)))] [(3, [(AV.list 1 u27.2.2.1 none)]), (5, (zQ u27.2.2.2.1)), (6, [(AV.list 1 u27.2.2.2.2.1 (some 6401572864))]), (9, (zQ u27.2.2.2.2.2))] (ZG 27).1.toks 0
 out := λ y => (.normal, mkS 120 [(1, (qI y.1)), (3, (AV.ptr 3 0)), (5, (AV.ptr 5 0)), (6, (AV.ptr 6 0))] [(3, [(AV.list 1 y.2.1 none)]), (5, (zQ y.2.2.1)), (6, [(AV.list 1 y.2.2.2 (some 6401572864))])] (ZG 27).2.toks 0)
 b := λ u27 α kn ke => (match u27.2.1 with | true => (ke (u27.1, u27.2.2.1, (u27.2.2.2.1.1, u27.2.2.2.1.2.1, u27.2.2.2.1.2.2.1, u27.2.2.2.1.2.2.2.1, u27.2.2.2.2.2.2.2.2.2), u27.2.2.2.2.1)) | false => (ke (u27.1, u27.2.2.1, u27.2.2.2.1, u27.2.2.2.2.1)))
abbrev zxI (N : Nat) (x : Int × Bool × qL × RT7 × qL × RT7) : Option ((Int × qL × RT7 × qL)) := (zaB N).L N x
def zaA (N : Nat) : LSpec where
 X := Int × qL × RT7 × qL × RT7
 Y := (Int × Bool × qL × RT7 × qL × RT7)
 p := λ s => rdS 120 0 [(1, .int .i64), (3, .ptr 3 0), (5, .ptr 5 0), (6, .ptr 6 0), (9, .ptr 9 0)] [(3, .cells [.lst 1]), (5, .row RK7), (6, .cells [.tok 1 6401572864]), (9, .row RK7)] s λ ⟨a0, _, _, _, _, _⟩ ⟨⟨a1, _⟩, a2, ⟨a3, _⟩, a4, _⟩ => (a0, a1, a2, a3, a4)
 st := λ u18 => mkS 120 [(1, (qI u18.1)), (3, (AV.ptr 3 0)), (5, (AV.ptr 5 0)), (6, (AV.ptr 6 0)), (9, (AV.ptr 9 0))] [(3, [(AV.list 1 u18.2.1 none)]), (5, (zQ u18.2.2.1)), (6, [(AV.list 1 u18.2.2.2.1 (some 6401572864))]), (9, (zQ u18.2.2.2.2))] (ZG 18).1.toks 0
 out := λ y => (.normal, mkS 120 [(1, (qI y.1)), (3, (AV.ptr 3 0)), (5, (AV.ptr 5 0)), (6, (AV.ptr 6 0)), (9, (AV.ptr 9 0)), (63, (AV.v (.bool y.2.1)))] [(3, [(AV.list 1 y.2.2.1 none)]), (5, (zQ y.2.2.2.1)), (6, [(AV.list 1 y.2.2.2.2.1 (some 6401572864))]), (9, (zQ y.2.2.2.2.2))] (ZG 18).2.toks 0)
 b := λ u18 α kn ke => (match (u18.2.2.1.1 == 5) with | true => (match (u18.2.2.1.2.2.2.1 == u18.1) with | true => (ke (u18.1, true, u18.2)) | false => (match (u18.2.2.1.1 == 6) with | true => (match zra N u18.2.2.2.2.1 with | some y30 => (ke (u18.1, y30, u18.2)) | none => none) | false => (ke (u18.1, false, u18.2)))) | false => (match (u18.2.2.1.1 == 6) with | true => (match zra N u18.2.2.2.2.1 with | some y31 => (ke (u18.1, y31, u18.2)) | none => none) | false => (ke (u18.1, false, u18.2))))
abbrev zxH (N : Nat) (x : Int × qL × RT7 × qL × RT7) : Option ((Int × Bool × qL × RT7 × qL × RT7)) := (zaA N).L N x
def zcR (N : Nat) : LSpec where
 X := Int × qL × RT7 × qL
 Y := (Int × Int × qL × RT7 × qL) ⊕ (Int × qL × RT7 × qL)
 p := λ s => rdS 120 0 [(1, .int .i64), (3, .ptr 3 0), (5, .ptr 5 0), (6, .ptr 6 0)] [(3, .cells [.lst 1]), (5, .row RK7), (6, .cells [.tok 1 6401572864])] s λ ⟨a0, _, _, _, _⟩ ⟨⟨a1, _⟩, a2, ⟨a3, _⟩, _⟩ => (a0, a1, a2, a3)
 st := λ u6 => mkS 120 [(1, (qI u6.1)), (3, (AV.ptr 3 0)), (5, (AV.ptr 5 0)), (6, (AV.ptr 6 0))] [(3, [(AV.list 1 u6.2.1 none)]), (5, (zQ u6.2.2.1)), (6, [(AV.list 1 u6.2.2.2 (some 6401572864))])] (ZG 6).1.toks 0
 out := λ y => match y with
  | .inl y => (.ret, mkS 120 [(1, (qI y.1)), (3, (AV.ptr 3 0)), (5, (AV.ptr 5 0)), (6, (AV.ptr 6 0)), (7, (qI y.2.1))] [(3, [(AV.list 1 y.2.2.1 none)]), (5, (zQ y.2.2.2.1)), (6, [(AV.list 1 y.2.2.2.2 (some 6401572864))])] (ZG 6).2.toks 0)
  | .inr y => (.normal, mkS 120 [(1, (qI y.1)), (3, (AV.ptr 3 0)), (5, (AV.ptr 5 0)), (6, (AV.ptr 6 0))] [(3, [(AV.list 1 y.2.1 none)]), (5, (zQ y.2.2.1)), (6, [(AV.list 1 y.2.2.2 (some 6401572864))])] (ZG 6).2.toks 0)
 b := λ u6 α kn ke => (match zAD N (u6.2.1, u6.1) with | some y17 => (match (!y17) with | true => (ke (.inl (u6.1, 6, u6.2.1, u6.2.2.1, ([] : qL)))) | false => (match (u6.2.2.1.1 == 5) with | true => (match zAD N (u6.2.1, u6.2.2.1.2.2.2.1) with | some y18 => (match (!y18) with | true => (ke (.inl (u6.1, 6, u6.2.1, u6.2.2.1, ([] : qL)))) | false => (ke (.inr u6))) | none => none) | false => (ke (.inr u6)))) | none => none)
abbrev zAi (N : Nat) (x : Int × qL × RT7 × qL) : Option ((Int × Int × qL × RT7 × qL) ⊕ (Int × qL × RT7 × qL)) := (zcR N).L N x
def zcQ (N : Nat) : LSpec where
 X := Int × qL × RT7 × qL
 Y := (Int × Int × qL × RT7 × qL) ⊕ (Int × qL × RT7 × qL)
 p := λ s => rdS 120 0 [(1, .int .i64), (3, .ptr 3 0), (5, .ptr 5 0), (6, .ptr 6 0)] [(3, .cells [.lst 1]), (5, .row RK7), (6, .cells [.tok 1 6401572864])] s λ ⟨a0, _, _, _, _⟩ ⟨⟨a1, _⟩, a2, ⟨a3, _⟩, _⟩ => (a0, a1, a2, a3)
 st := λ u2 => mkS 120 [(1, (qI u2.1)), (3, (AV.ptr 3 0)), (5, (AV.ptr 5 0)), (6, (AV.ptr 6 0))] [(3, [(AV.list 1 u2.2.1 none)]), (5, (zQ u2.2.2.1)), (6, [(AV.list 1 u2.2.2.2 (some 6401572864))])] (ZG 2).1.toks 0
 out := λ y => match y with
  | .inl y => (.ret, mkS 120 [(1, (qI y.1)), (3, (AV.ptr 3 0)), (5, (AV.ptr 5 0)), (6, (AV.ptr 6 0)), (7, (qI y.2.1))] [(3, [(AV.list 1 y.2.2.1 none)]), (5, (zQ y.2.2.2.1)), (6, [(AV.list 1 y.2.2.2.2 (some 6401572864))])] (ZG 2).2.toks 0)
  | .inr y => (.normal, mkS 120 [(1, (qI y.1)), (3, (AV.ptr 3 0)), (5, (AV.ptr 5 0)), (6, (AV.ptr 6 0))] [(3, [(AV.list 1 y.2.1 none)]), (5, (zQ y.2.2.1)), (6, [(AV.list 1 y.2.2.2 (some 6401572864))])] (ZG 2).2.toks 0)
 b := λ u2 α kn ke => (match zjO N u2.2.1 with | some y7 => (match (!y7) with | true => (ke (.inl (u2.1, 1, u2.2.1, u2.2.2.1, ([] : qL)))) | false => (match zsJ N u2.2.2.1.2.2.1 with | some y8 => (match (!y8) with | true => (ke (.inl (u2.1, 1, u2.2.1, u2.2.2.1, ([] : qL)))) | false => (match (u2.2.2.1.1 == 3) with | true => (match zn0 N (zx u2.2.2.1) with | some y9 => (match (!y9) with | true => (ke (.inl (u2.1, 1, u2.2.1, u2.2.2.1, ([] : qL)))) | false => (ke (.inr u2))) | none => none) | false => (ke (.inr u2)))) | none => none)) | none => none)
abbrev zAh (N : Nat) (x : Int × qL × RT7 × qL) : Option ((Int × Int × qL × RT7 × qL) ⊕ (Int × qL × RT7 × qL)) := (zcQ N).L N x
def zfa (N : Nat) : FSpec where
 X := qL × Int × RT7
 Y := qL × Int
 ash := [[some 1], [none], [none, none, none, none, none, none, none, none, none, none, none, none, none, some 9, none, none, none, none, none, none, none, none, none, none, none, none, none, none, none]]
 S := ⟨[[some 1], [none]], [], [], [], []⟩
 pat := λ a b => zl a λ v1 c2 => jA v1 λ c3 => zl c3 λ c4 c5 => jg 1 c4 λ a0 => zV c5 <| zl c2 λ v6 c7 => Jo .i64 v6 λ a1 => zl c7 λ v8 c9 => zw3 RK7 v8 λ a2 => zV c9 <| zV b <| some (a0, a1, a2)
 args := λ x => [(AV.agg [(AV.list 1 x.1 none)]), (AV.v (.int .i64 x.2.1)), (AV.agg (zQ x.2.2))]
 ret := λ y => ⟨(AV.tup [(AV.agg [(AV.list 1 y.1 none)]), (AV.v (.int .i64 y.2))]), [], none, [], [], [], none⟩
 t := λ x α k => (match zAh N (x.2.1, x.1, x.2.2, ([] : qL)) with | some y10 => (match y10 with | .inl z11 => (k (z11.2.2.2.2, z11.2.1)) | .inr z12 => (match zAi N z12 with | some y19 => (match y19 with | .inl z20 => (k (z20.2.2.2.2, z20.2.1)) | .inr z21 => (match zq3 N (z21.2.1, z21.2.2.1.2.1) with | some y22 => (match (y22 != 0) with | true => (k (([] : qL), y22)) | false => (if 0 <= z21.1 then (match z21.2.1[z21.1.toNat]? with | some c23 => (match zdO c23 with | some e24 => (match zmC N e24.1 with | some y25 => (match zxH N (z21.1, z21.2.1, z21.2.2.1, z21.2.2.2, y25) with | some y32 => (match y32.2.1 with | true => (k (([] : qL), 10)) | false => (if 0 <= y32.1 then (match y32.2.2.1[y32.1.toNat]? with | some c33 => (match (c33.drop 0)[0]? with | some x34 => (match jZ 29 x34 with | some l35 => (match ((l35.length : Int) == 100) with | true => (k (([] : qL), 8)) | false => (if 0 <= y32.2.2.2.1.1 /\ y32.2.2.2.1.1 < 7 then (match ((gtab2.map AV.v).drop (y32.2.2.2.1.1.toNat * 1))[0]? with | some x36 => (match x36 with | .v (.bool b37) => (match zxI N (y32.1, b37, y32.2.2) with | some y38 => (match zdW N (zx y38.2.2.1) with | some y39 => (match ziA N y38.2.1 with | some y40 => (if 0 <= y38.1 /\ y38.1 < (y40.1 : Int) then (match (y40.2.1.map (datJ y40.2.2.1 y40.2.2.2))[(((0 + y38.1.toNat) * 1) + 0)]? with | some c41 => (match c41 with | .list n42 l43 (some q44) => (if n42 = 29 /\ q44 = TOB + (((0 + y38.1.toNat) * 1) + 0) /\ y40.2.2.1 <= (((0 + y38.1.toNat) * 1) + 0) /\ (((0 + y38.1.toNat) * 1) + 0) < y40.2.2.2 then (if (l43.length + [(zQ (y38.2.2.1.1, y38.2.2.1.2.1, y38.2.2.1.2.2.1, y38.2.2.1.2.2.2.1, y39))].length) * 288 <= zg then (if 0 <= y38.1 /\ y38.1 < (y40.1 : Int) then (if (((0 + y38.1.toNat) * 1) + 0) + 1 <= (y40.2.1.map (datJ y40.2.2.1 y40.2.2.2)).length then (if y40.1 * 1 <= (splice (y40.2.1.map (datJ y40.2.2.1 y40.2.2.2)) (((0 + y38.1.toNat) * 1) + 0) [(AV.list 29 (l43 ++ [(zQ (y38.2.2.1.1, y38.2.2.1.2.1, y38.2.2.1.2.2.1, y38.2.2.1.2.2.2.1, y39))]) (some 7424))]).length then (k ((zK ((splice (y40.2.1.map (datJ y40.2.2.1 y40.2.2.2)) (((0 + y38.1.toNat) * 1) + 0) [(AV.list 29 (l43 ++ [(zQ (y38.2.2.1.1, y38.2.2.1.2.1, y38.2.2.1.2.2.1, y38.2.2.1.2.2.2.1, y39))]) (some 7424))]).take (y40.1 * 1)) 1 y40.1), 0)) else none) else none) else none) else none) else none) | _ => none) | none => none) else none) | none => none) | none => none) | none => none) | _ => none) | none => none) else none)) | none => none) | none => none) | none => none) else none)) | none => none) | none => none) | none => none) | none => none) else none)) | none => none)) | none => none)) | none => none)
abbrev zC8 (N : Nat) (x : qL × Int × RT7) : Option (qL × Int) := (zfa N).d x
def j9 (N : Nat) : List (Nat × LSpec) := [(2, zcQ N), (6, zcR N), (18, zaA N), (27, zaB N)]
def zaj : Code := Tryd.f53.body.getD .skip
theorem znr (N : Nat) : Par (zaB N).b := by
 intro x α β kn ke kn' ke' r r' h h1 h2
 revert h
 dsimp only [zaB]
 (repeat' (first | (with_reducible refine ze ?_ ?_) | split)) <;> intro h <;> first | exact h1 _ h | exact h2 _ h | cases h
theorem zkm (N : Nat) : zlz (JQ qP [104, 113]) (znn N) ZG N (j9 N) 27 zaj (zaB N) := λ x α kn ke => by kernel_rfl
theorem zko (N : Nat) : ZB qP ZG N (j9 N) 27 (zb 27 zaj) :=
 j5 (zL qP [104, 113]) (zh _) zk ZG N (j9 N) 27 zaj (l := []) (by kernel_rfl) an (zaB N) rfl (λ s x hc h => by dsimp only [zaB] at h; exact zG hc h (λ _ _ => rfl) rfl rfl rfl) (zkm N) (znr N)
theorem znq (N : Nat) : Par (zaA N).b := by
 intro x α β kn ke kn' ke' r r' h h1 h2
 revert h
 dsimp only [zaA]
 (repeat' (first | (with_reducible refine ze ?_ ?_) | split)) <;> intro h <;> first | exact h1 _ h | exact h2 _ h | cases h
theorem zkl (N : Nat) : zlz (JQ qP [104, 113]) (znn N) ZG N (j9 N) 18 zaj (zaA N) := λ x α kn ke => by kernel_rfl
theorem zkn (N : Nat) : ZB qP ZG N (j9 N) 18 (zb 18 zaj) :=
 j5 (zL qP [104, 113]) (zh _) zk ZG N (j9 N) 18 zaj (l := []) (by kernel_rfl) an (zaA N) rfl (λ s x hc h => by dsimp only [zaA] at h; exact zG hc h (λ _ _ => rfl) rfl rfl rfl) (zkl N) (znq N)
theorem zrT (N : Nat) : Par (zcR N).b := by
 intro x α β kn ke kn' ke' r r' h h1 h2
 revert h
 dsimp only [zcR]
 (repeat' (first | (with_reducible refine ze ?_ ?_) | split)) <;> intro h <;> first | exact h1 _ h | exact h2 _ h | cases h
theorem znm (N : Nat) : zlz (JQ qP [104, 113]) (znn N) ZG N (j9 N) 6 zaj (zcR N) := λ x α kn ke => by kernel_rfl
theorem znp (N : Nat) : ZB qP ZG N (j9 N) 6 (zb 6 zaj) :=
 j5 (zL qP [104, 113]) (zh _) zk ZG N (j9 N) 6 zaj (l := []) (by kernel_rfl) an (zcR N) rfl (λ s x hc h => by dsimp only [zcR] at h; exact zG hc h (λ _ _ => rfl) rfl rfl rfl) (znm N) (zrT N)
theorem zrS (N : Nat) : Par (zcQ N).b := by
 intro x α β kn ke kn' ke' r r' h h1 h2
 revert h
 dsimp only [zcQ]
 (repeat' (first | (with_reducible refine ze ?_ ?_) | split)) <;> intro h <;> first | exact h1 _ h | exact h2 _ h | cases h
theorem znl (N : Nat) : zlz (JQ qP [104, 113]) (znn N) ZG N (j9 N) 2 zaj (zcQ N) := λ x α kn ke => by kernel_rfl
theorem zno (N : Nat) : ZB qP ZG N (j9 N) 2 (zb 2 zaj) :=
 j5 (zL qP [104, 113]) (zh _) zk ZG N (j9 N) 2 zaj (l := []) (by kernel_rfl) an (zcQ N) rfl (λ s x hc h => by dsimp only [zcQ] at h; exact zG hc h (λ _ _ => rfl) rfl rfl rfl) (znl N) (zrS N)
theorem zrU (N : Nat) : Zd (zfa N).t := by
 intro x α β k k' r r' h h1
 revert h
 dsimp only [zfa]
 (repeat' (first | (with_reducible refine ze ?_ ?_) | split)) <;> intro h <;> first | exact h1 _ h | cases h
theorem zrV (N : Nat) : Zg (JQ qP [104, 113]) (znn N) ZG (lam N (j9 N)) Tryd.f53 (zfa N) := λ x => by kernel_rfl
theorem zxJ (N : Nat) (a : List AV) (b : qL) (x : (zfa N).X) (h : (zfa N).pat a b = some x) : a = (zfa N).args x /\ b = (zfa N).bs x := by
 obtain ⟨v1, c2, rfl, g0⟩ := zd (show zl _ _ = some x from h)
 obtain ⟨c3, rfl, g1⟩ := zW g0; clear g0
 obtain ⟨c4, c5, rfl, g2⟩ := zd g1; clear g1
 obtain ⟨a0, rfl, g3⟩ := zr g2; clear g2
 obtain ⟨rfl, g4⟩ := zi g3; clear g3
 obtain ⟨v6, c7, rfl, g5⟩ := zd g4; clear g4
 obtain ⟨a1, rfl, g6⟩ := zJ g5; clear g5
 obtain ⟨v8, c9, rfl, g7⟩ := zd g6; clear g6
 obtain ⟨a2, rfl, g8⟩ := zdD g7; clear g7
 obtain ⟨rfl, g9⟩ := zi g8; clear g8
 obtain ⟨rfl, g10⟩ := zi g9; clear g9
 clear h
 cases g10
 exact ⟨rfl, rfl⟩
def zC9 (N : Nat) : Ent qP := zA (zL qP [104, 113]) (zh _) zk 53 Tryd.f53 Tryd.func53 rfl ZG (lam N (j9 N)) (zm (l := [(2, zb 2 zaj), (6, zb 6 zaj), (18, zb 18 zaj), (27, zb 27 zaj)]) (al (zno N) (al (znp N) (al (zkn N) (al (zko N) an)))) (by kernel_rfl)) (zfa N) (λ _ => ⟨rfl, rfl⟩) (zrV N) (zxJ N) (zrU N)
def Zi : Nat -> Keep × Keep := anF [(16, ⟨[2, 6, 10, 12, 43, 44], [(11, 1)], [6, 10, 36, 39], [(1, 25), (42, 1)], [((6, 0), 1)], [], [], [36, 39], false, some 36, []⟩, ⟨[2, 6, 8, 10, 12], [(11, 1)], [6, 10, 36, 39], [(1, 25), (7, 1)], [((6, 0), 1)], [], [], [36, 39], false, some 36, []⟩), (27, ⟨[2, 6, 10, 12, 13, 14, 15, 16, 43, 44, 58], [(11, 1)], [6, 10, 16, 36, 39], [(1, 25), (42, 1)], [((6, 0), 1)], [], [], [36, 39], true, some 36, []⟩, ⟨[2, 6, 10, 12, 13, 14, 15, 16, 43, 44], [(11, 1)], [6, 10, 16, 36, 39], [(1, 25), (42, 1)], [((6, 0), 1)], [], [], [36, 39], false, some 36, []⟩), (33, ⟨[2, 6, 10, 12, 13, 14, 15, 16, 43, 44, 81], [(11, 1)], [6, 10, 16, 36, 39], [(1, 25), (42, 1)], [((6, 0), 1)], [], [], [36, 39], true, some 36, []⟩, ⟨[2, 6, 10, 12, 13, 15, 43, 44], [(11, 1)], [6, 10, 36, 39], [(1, 25), (42, 1)], [((6, 0), 1)], [], [], [36, 39], false, some 36, []⟩), (35, ⟨[2, 6, 10, 12, 13, 14, 15, 16, 43, 44], [(11, 1)], [6, 10, 16, 36, 39], [(1, 25), (42, 1)], [((6, 0), 1)], [], [], [36, 39], true, some 36, []⟩, ⟨[2, 6, 10, 12, 13, 14, 15, 43, 44], [(11, 1)], [6, 10, 36, 39], [(1, 25), (42, 1)], [((6, 0), 1)], [], [], [36, 39], false, some 36, []⟩), (46, ⟨[2, 6, 10, 12, 130, 131], [(11, 1)], [6, 10, 39], [(129, 25)], [((6, 0), 1)], [], [((10, 0), 1)], [39], false, none, []⟩, ⟨[6, 10], [(11, 1)], [6, 10], [], [((6, 0), 1)], [], [((10, 0), 1)], [], false, none, []⟩)] [(100035, ([], [((10, 0), 1)]))]
def zjK (N : Nat) : GamK := gam (P := qP) [zqr N, zzT N, zzU N, zvP N, zzG N, zq7 N, zzV N, zzW N, zrf N]
def ZC (N : Nat) : LSpec where
 X := qL × qL × Int × Nat × Int × Int × qL × Nat × qA × qA
 Y := (qL × qL × Nat × qA)
 p := λ s => rdS 166 0 [(11, .tok 1 1280000704), (129, .lst 25), (2, .int .i64), (6, .ptr 6 0), (10, .ptr 10 0), (12, .vs0 39 1), (130, .int .i64), (131, .int .i64)] [(6, .cells [.tok 1 6401572864]), (10, .cells [.vs0 2040960 1]), (39, .tt), (2040960, .tt)] s λ ⟨a0, a1, a2, _, _, a3, a4, a5, _⟩ ⟨⟨a6, _⟩, ⟨a7, _⟩, a8, a9, _⟩ => (a0, a1, a2, a3, a4, a5, a6, a7, a8, a9)
 st := λ u46 => mkS 166 [(11, (AV.list 1 u46.1 (some 1280000704))), (129, (AV.list 25 u46.2.1 none)), (2, (qI u46.2.2.1)), (6, (AV.ptr 6 0)), (10, (AV.ptr 10 0)), (12, (AV.vs 39 0 u46.2.2.2.1 1)), (130, (qI u46.2.2.2.2.1)), (131, (qI u46.2.2.2.2.2.1))] [(6, [(AV.list 1 u46.2.2.2.2.2.2.1 (some 6401572864))]), (10, [(AV.vs 2040960 0 u46.2.2.2.2.2.2.2.1 1)]), (39, u46.2.2.2.2.2.2.2.2.1), (2040960, u46.2.2.2.2.2.2.2.2.2)] (Zi 46).1.toks 0
 out := λ y => (.exit 3, mkS 166 [(11, (AV.list 1 y.1 (some 1280000704))), (6, (AV.ptr 6 0)), (10, (AV.ptr 10 0))] [(6, [(AV.list 1 y.2.1 (some 6401572864))]), (10, [(AV.vs 2040960 0 y.2.2.1 1)]), (2040960, y.2.2.2)] (Zi 46).2.toks 0)
 b := λ u46 α kn ke => (match (decide (u46.2.2.2.2.2.1 < u46.2.2.2.2.1)) with | true => (if 0 <= u46.2.2.2.2.2.1 then (match u46.2.1[u46.2.2.2.2.2.1.toNat]? with | some c100 => (match zhD c100 with | some e101 => (if 0 <= u46.2.2.2.2.2.1 /\ u46.2.2.2.2.2.1 < (u46.2.2.2.1 : Int) then (match u46.2.2.2.2.2.2.2.2.1[((0 + u46.2.2.2.2.2.1.toNat) * 1)]? with | some x102 => (match x102 with | .v (.bool b103) => (match (!b103) with | true => (if (u46.1.length + [[(AV.v (.int .i64 ((u46.2.2.2.2.2.2.2.1 : Nat) : Int)))]].length) * 8 <= zg then (match zdW N e101 with | some y104 => (if u46.2.2.2.2.2.2.2.1 * 1 <= u46.2.2.2.2.2.2.2.2.2.length /\ (u46.2.2.2.2.2.2.2.1 + [[(AV.list 29 [(zQ (1, u46.2.2.1, (⟨#[]⟩ : ByteArray), 0, y104))] none)]].length) * 24 <= zg then (kn ((u46.1 ++ [[(AV.v (.int .i64 ((u46.2.2.2.2.2.2.2.1 : Nat) : Int)))]]), u46.2.1, u46.2.2.1, u46.2.2.2.1, u46.2.2.2.2.1, (i64 (u46.2.2.2.2.2.1 + 1)), u46.2.2.2.2.2.2.1, (u46.2.2.2.2.2.2.2.1 + [[(AV.list 29 [(zQ (1, u46.2.2.1, (⟨#[]⟩ : ByteArray), 0, y104))] none)]].length), (u46.2.2.2.2.2.2.2.2.1.map dat0), ((u46.2.2.2.2.2.2.2.2.2.take (u46.2.2.2.2.2.2.2.1 * 1) ++ [[(AV.list 29 [(zQ (1, u46.2.2.1, (⟨#[]⟩ : ByteArray), 0, y104))] none)]].flatten).map dat0))) else none) | none => none) else none) | false => (kn (u46.1, u46.2.1, u46.2.2.1, u46.2.2.2.1, u46.2.2.2.2.1, (i64 (u46.2.2.2.2.2.1 + 1)), u46.2.2.2.2.2.2.1, u46.2.2.2.2.2.2.2.1, (u46.2.2.2.2.2.2.2.2.1.map dat0), (u46.2.2.2.2.2.2.2.2.2.map dat0)))) | _ => none) | none => none) else none) | none => none) | none => none) else none) | false => (ke (u46.1, u46.2.2.2.2.2.2.1, u46.2.2.2.2.2.2.2.1, (u46.2.2.2.2.2.2.2.2.2.map dat0))))
abbrev zlW (N : Nat) (x : qL × qL × Int × Nat × Int × Int × qL × Nat × qA × qA) : Option ((qL × qL × Nat × qA)) := (ZC N).L N x
def jv (N : Nat) : LSpec where
 X := qL × qL × qL × Int × Nat × Int × Int × Nat × Int × Int × qL × Nat × RT7 × qA × qA × Nat × Nat
 Y := (qL × qL × qL × Int × Nat × Int × Int × Nat × Int × Int × qL × Nat × qA × qA × Nat × Nat) ⊕ (qL × qL × qL × Int × Nat × Int × Int × Nat × Int × Int × qL × Nat × qA × qA × Nat × Nat)
 p := λ s => rdF 166 0 36 [(11, .tok 1 1280000704), (1, .lst 25), (42, .lst 1), (2, .int .i64), (6, .ptr 6 0), (10, .ptr 10 0), (12, .vs0 39 1), (13, .int .i64), (14, .int .i64), (15, .ptrV 36), (16, .ptr 16 0), (43, .int .i64), (44, .int .i64)] [(6, .cells [.tok 1 6401572864]), (10, .cells [.vs0 36 1]), (16, .row RK7), (36, .tt), (39, .tt)] s λ ⟨a0, a1, a2, a3, _, _, a4, a5, a6, a7, _, a8, a9, _⟩ ⟨⟨a10, _⟩, ⟨a11, _⟩, a12, a13, a14, _⟩ a15 a16 => (a0, a1, a2, a3, a4, a5, a6, a7, a8, a9, a10, a11, a12, a13, a14, a15, a16)
 st := λ u35 => mkF 166 [(11, (AV.list 1 u35.1 (some 1280000704))), (1, (AV.list 25 u35.2.1 none)), (42, (AV.list 1 u35.2.2.1 none)), (2, (qI u35.2.2.2.1)), (6, (AV.ptr 6 0)), (10, (AV.ptr 10 0)), (12, (AV.vs 39 0 u35.2.2.2.2.1 1)), (13, (qI u35.2.2.2.2.2.1)), (14, (qI u35.2.2.2.2.2.2.1)), (15, (AV.ptr 36 u35.2.2.2.2.2.2.2.1)), (16, (AV.ptr 16 0)), (43, (qI u35.2.2.2.2.2.2.2.2.1)), (44, (qI u35.2.2.2.2.2.2.2.2.2.1))] [(6, [(AV.list 1 u35.2.2.2.2.2.2.2.2.2.2.1 (some 6401572864))]), (10, [(AV.vs 36 0 u35.2.2.2.2.2.2.2.2.2.2.2.1 1)]), (16, (zQ u35.2.2.2.2.2.2.2.2.2.2.2.2.1)), (36, u35.2.2.2.2.2.2.2.2.2.2.2.2.2.1), (39, u35.2.2.2.2.2.2.2.2.2.2.2.2.2.2.1)] (Zi 35).1.toks 0 (some (36, u35.2.2.2.2.2.2.2.2.2.2.2.2.2.2.2.1, u35.2.2.2.2.2.2.2.2.2.2.2.2.2.2.2.2))
 out := λ y => match y with
  | .inl y => (.exit 1, mkF 166 [(11, (AV.list 1 y.1 (some 1280000704))), (1, (AV.list 25 y.2.1 none)), (42, (AV.list 1 y.2.2.1 none)), (2, (qI y.2.2.2.1)), (6, (AV.ptr 6 0)), (10, (AV.ptr 10 0)), (12, (AV.vs 39 0 y.2.2.2.2.1 1)), (13, (qI y.2.2.2.2.2.1)), (14, (qI y.2.2.2.2.2.2.1)), (15, (AV.ptr 36 y.2.2.2.2.2.2.2.1)), (43, (qI y.2.2.2.2.2.2.2.2.1)), (44, (qI y.2.2.2.2.2.2.2.2.2.1))] [(6, [(AV.list 1 y.2.2.2.2.2.2.2.2.2.2.1 (some 6401572864))]), (10, [(AV.vs 36 0 y.2.2.2.2.2.2.2.2.2.2.2.1 1)]), (36, y.2.2.2.2.2.2.2.2.2.2.2.2.1), (39, y.2.2.2.2.2.2.2.2.2.2.2.2.2.1)] (Zi 35).2.toks 0 (some (36, y.2.2.2.2.2.2.2.2.2.2.2.2.2.2.1, y.2.2.2.2.2.2.2.2.2.2.2.2.2.2.2)))
  | .inr y => (.normal, mkF 166 [(11, (AV.list 1 y.1 (some 1280000704))), (1, (AV.list 25 y.2.1 none)), (42, (AV.list 1 y.2.2.1 none)), (2, (qI y.2.2.2.1)), (6, (AV.ptr 6 0)), (10, (AV.ptr 10 0)), (12, (AV.vs 39 0 y.2.2.2.2.1 1)), (13, (qI y.2.2.2.2.2.1)), (14, (qI y.2.2.2.2.2.2.1)), (15, (AV.ptr 36 y.2.2.2.2.2.2.2.1)), (43, (qI y.2.2.2.2.2.2.2.2.1)), (44, (qI y.2.2.2.2.2.2.2.2.2.1))] [(6, [(AV.list 1 y.2.2.2.2.2.2.2.2.2.2.1 (some 6401572864))]), (10, [(AV.vs 36 0 y.2.2.2.2.2.2.2.2.2.2.2.1 1)]), (36, y.2.2.2.2.2.2.2.2.2.2.2.2.1), (39, y.2.2.2.2.2.2.2.2.2.2.2.2.2.1)] (Zi 35).2.toks 0 (some (36, y.2.2.2.2.2.2.2.2.2.2.2.2.2.2.1, y.2.2.2.2.2.2.2.2.2.2.2.2.2.2.2)))
 b := λ u35 α kn ke => (if 0 <= u35.2.2.2.2.2.2.2.2.2.2.2.2.1.1 /\ u35.2.2.2.2.2.2.2.2.2.2.2.2.1.1 < 7 then (match ((gtab0.map AV.v).drop (u35.2.2.2.2.2.2.2.2.2.2.2.2.1.1.toNat * 1))[0]? with | some x24 => (match x24 with | .v (.bool b25) => (match b25 with | true => (if 0 <= u35.2.2.2.2.2.2.1 then (match u35.2.1[u35.2.2.2.2.2.2.1.toNat]? with | some c26 => (match zhD c26 with | some e27 => (match zj7 N ((zx u35.2.2.2.2.2.2.2.2.2.2.2.2.1), e27) with | some y28 => (match y28 with | true => (ke (.inl (u35.1, u35.2.1, u35.2.2.1, u35.2.2.2.1, u35.2.2.2.2.1, u35.2.2.2.2.2.1, u35.2.2.2.2.2.2.1, u35.2.2.2.2.2.2.2.1, u35.2.2.2.2.2.2.2.2.1, u35.2.2.2.2.2.2.2.2.2.1, u35.2.2.2.2.2.2.2.2.2.2.1, u35.2.2.2.2.2.2.2.2.2.2.2.1, (u35.2.2.2.2.2.2.2.2.2.2.2.2.2.1.map datF), (u35.2.2.2.2.2.2.2.2.2.2.2.2.2.2.1.map dat0), u35.2.2.2.2.2.2.2.2.2.2.2.2.2.2.2))) | false => (ke (.inr (u35.1, u35.2.1, u35.2.2.1, u35.2.2.2.1, u35.2.2.2.2.1, u35.2.2.2.2.2.1, u35.2.2.2.2.2.2.1, u35.2.2.2.2.2.2.2.1, u35.2.2.2.2.2.2.2.2.1, u35.2.2.2.2.2.2.2.2.2.1, u35.2.2.2.2.2.2.2.2.2.2.1, u35.2.2.2.2.2.2.2.2.2.2.2.1, (u35.2.2.2.2.2.2.2.2.2.2.2.2.2.1.map datF), (u35.2.2.2.2.2.2.2.2.2.2.2.2.2.2.1.map dat0), u35.2.2.2.2.2.2.2.2.2.2.2.2.2.2.2)))) | none => none) | none => none) | none => none) else none) | false => (ke (.inr (u35.1, u35.2.1, u35.2.2.1, u35.2.2.2.1, u35.2.2.2.2.1, u35.2.2.2.2.2.1, u35.2.2.2.2.2.2.1, u35.2.2.2.2.2.2.2.1, u35.2.2.2.2.2.2.2.2.1, u35.2.2.2.2.2.2.2.2.2.1, u35.2.2.2.2.2.2.2.2.2.2.1, u35.2.2.2.2.2.2.2.2.2.2.2.1, (u35.2.2.2.2.2.2.2.2.2.2.2.2.2.1.map datF), (u35.2.2.2.2.2.2.2.2.2.2.2.2.2.2.1.map dat0), u35.2.2.2.2.2.2.2.2.2.2.2.2.2.2.2)))) | _ => none) | none => none) else none)
abbrev zeY (N : Nat) (x : qL × qL × qL × Int × Nat × Int × Int × Nat × Int × Int × qL × Nat × RT7 × qA × qA × Nat × Nat) : Option ((qL × qL × qL × Int × Nat × Int × Int × Nat × Int × Int × qL × Nat × qA × qA × Nat × Nat) ⊕ (qL × qL × qL × Int × Nat × Int × Int × Nat × Int × Int × qL × Nat × qA × qA × Nat × Nat)) := (jv N).L N x
def ji (N : Nat) : LSpec where
 X := qL × qL × qL × Int × Nat × Int × Int × Nat × Int × Int × Bool × qL × Nat × RT7 × qA × qA × Nat × Nat
 Y := (qL × qL × qL × Int × Nat × Int × Nat × Int × Int × qL × Nat × qA × qA × Nat × Nat) ⊕ (qL × qL × qL × Int × Nat × Int × Nat × Int × Int × qL × Nat × qA × qA × Nat × Nat)
 p := λ s => rdF 166 0 36 [(11, .tok 1 1280000704), (1, .lst 25), (42, .lst 1), (2, .int .i64), (6, .ptr 6 0), (10, .ptr 10 0), (12, .vs0 39 1), (13, .int .i64), (14, .int .i64), (15, .ptrV 36), (16, .ptr 16 0), (43, .int .i64), (44, .int .i64), (81, .bool)] [(6, .cells [.tok 1 6401572864]), (10, .cells [.vs0 36 1]), (16, .row RK7), (36, .tt), (39, .tt)] s λ ⟨a0, a1, a2, a3, _, _, a4, a5, a6, a7, _, a8, a9, a10, _⟩ ⟨⟨a11, _⟩, ⟨a12, _⟩, a13, a14, a15, _⟩ a16 a17 => (a0, a1, a2, a3, a4, a5, a6, a7, a8, a9, a10, a11, a12, a13, a14, a15, a16, a17)
 st := λ u33 => mkF 166 [(11, (AV.list 1 u33.1 (some 1280000704))), (1, (AV.list 25 u33.2.1 none)), (42, (AV.list 1 u33.2.2.1 none)), (2, (qI u33.2.2.2.1)), (6, (AV.ptr 6 0)), (10, (AV.ptr 10 0)), (12, (AV.vs 39 0 u33.2.2.2.2.1 1)), (13, (qI u33.2.2.2.2.2.1)), (14, (qI u33.2.2.2.2.2.2.1)), (15, (AV.ptr 36 u33.2.2.2.2.2.2.2.1)), (16, (AV.ptr 16 0)), (43, (qI u33.2.2.2.2.2.2.2.2.1)), (44, (qI u33.2.2.2.2.2.2.2.2.2.1)), (81, (AV.v (.bool u33.2.2.2.2.2.2.2.2.2.2.1)))] [(6, [(AV.list 1 u33.2.2.2.2.2.2.2.2.2.2.2.1 (some 6401572864))]), (10, [(AV.vs 36 0 u33.2.2.2.2.2.2.2.2.2.2.2.2.1 1)]), (16, (zQ u33.2.2.2.2.2.2.2.2.2.2.2.2.2.1)), (36, u33.2.2.2.2.2.2.2.2.2.2.2.2.2.2.1), (39, u33.2.2.2.2.2.2.2.2.2.2.2.2.2.2.2.1)] (Zi 33).1.toks 0 (some (36, u33.2.2.2.2.2.2.2.2.2.2.2.2.2.2.2.2.1, u33.2.2.2.2.2.2.2.2.2.2.2.2.2.2.2.2.2))
 out := λ y => match y with
  | .inl y => (.exit 1, mkF 166 [(11, (AV.list 1 y.1 (some 1280000704))), (1, (AV.list 25 y.2.1 none)), (42, (AV.list 1 y.2.2.1 none)), (2, (qI y.2.2.2.1)), (6, (AV.ptr 6 0)), (10, (AV.ptr 10 0)), (12, (AV.vs 39 0 y.2.2.2.2.1 1)), (13, (qI y.2.2.2.2.2.1)), (15, (AV.ptr 36 y.2.2.2.2.2.2.1)), (43, (qI y.2.2.2.2.2.2.2.1)), (44, (qI y.2.2.2.2.2.2.2.2.1))] [(6, [(AV.list 1 y.2.2.2.2.2.2.2.2.2.1 (some 6401572864))]), (10, [(AV.vs 36 0 y.2.2.2.2.2.2.2.2.2.2.1 1)]), (36, y.2.2.2.2.2.2.2.2.2.2.2.1), (39, y.2.2.2.2.2.2.2.2.2.2.2.2.1)] (Zi 33).2.toks 0 (some (36, y.2.2.2.2.2.2.2.2.2.2.2.2.2.1, y.2.2.2.2.2.2.2.2.2.2.2.2.2.2)))
  | .inr y => (.normal, mkF 166 [(11, (AV.list 1 y.1 (some 1280000704))), (1, (AV.list 25 y.2.1 none)), (42, (AV.list 1 y.2.2.1 none)), (2, (qI y.2.2.2.1)), (6, (AV.ptr 6 0)), (10, (AV.ptr 10 0)), (12, (AV.vs 39 0 y.2.2.2.2.1 1)), (13, (qI y.2.2.2.2.2.1)), (15, (AV.ptr 36 y.2.2.2.2.2.2.1)), (43, (qI y.2.2.2.2.2.2.2.1)), (44, (qI y.2.2.2.2.2.2.2.2.1))] [(6, [(AV.list 1 y.2.2.2.2.2.2.2.2.2.1 (some 6401572864))]), (10, [(AV.vs 36 0 y.2.2.2.2.2.2.2.2.2.2.1 1)]), (36, y.2.2.2.2.2.2.2.2.2.2.2.1), (39, y.2.2.2.2.2.2.2.2.2.2.2.2.1)] (Zi 33).2.toks 0 (some (36, y.2.2.2.2.2.2.2.2.2.2.2.2.2.1, y.2.2.2.2.2.2.2.2.2.2.2.2.2.2)))
 b := λ u33 α kn ke => (match u33.2.2.2.2.2.2.2.2.2.2.1 with | true => (match zeY N (u33.1, u33.2.1, u33.2.2.1, u33.2.2.2.1, u33.2.2.2.2.1, u33.2.2.2.2.2.1, u33.2.2.2.2.2.2.1, u33.2.2.2.2.2.2.2.1, u33.2.2.2.2.2.2.2.2.1, u33.2.2.2.2.2.2.2.2.2.1, u33.2.2.2.2.2.2.2.2.2.2.2.1, u33.2.2.2.2.2.2.2.2.2.2.2.2.1, u33.2.2.2.2.2.2.2.2.2.2.2.2.2.1, (u33.2.2.2.2.2.2.2.2.2.2.2.2.2.2.1.map datF), (u33.2.2.2.2.2.2.2.2.2.2.2.2.2.2.2.1.map dat0), u33.2.2.2.2.2.2.2.2.2.2.2.2.2.2.2.2) with | some y59 => (match y59 with | .inl z60 => (ke (.inl (z60.1, z60.2.1, z60.2.2.1, z60.2.2.2.1, z60.2.2.2.2.1, z60.2.2.2.2.2.1, z60.2.2.2.2.2.2.2.1, z60.2.2.2.2.2.2.2.2.1, z60.2.2.2.2.2.2.2.2.2.1, z60.2.2.2.2.2.2.2.2.2.2.1, z60.2.2.2.2.2.2.2.2.2.2.2.1, (z60.2.2.2.2.2.2.2.2.2.2.2.2.1.map datF), (z60.2.2.2.2.2.2.2.2.2.2.2.2.2.1.map dat0), z60.2.2.2.2.2.2.2.2.2.2.2.2.2.2))) | .inr z61 => (match z61.2.2.2.2.2.2.2.2.2.2.2.2.1[(z61.2.2.2.2.2.2.2.1 + 0)]? with | some c62 => (match c62 with | .list n63 l64 (some q65) => (if n63 = 29 /\ q65 = TOB + (z61.2.2.2.2.2.2.2.1 + 0) /\ z61.2.2.2.2.2.2.2.2.2.2.2.2.2.2.1 <= (z61.2.2.2.2.2.2.2.1 + 0) /\ (z61.2.2.2.2.2.2.2.1 + 0) < z61.2.2.2.2.2.2.2.2.2.2.2.2.2.2.2 then (if 0 <= z61.2.2.2.2.2.2.1 then (match z61.2.1[z61.2.2.2.2.2.2.1.toNat]? with | some c66 => (match zhD c66 with | some e67 => (match zdW N e67 with | some y68 => (if (l64.length + [(zQ (1, z61.2.2.2.1, (⟨#[]⟩ : ByteArray), 0, y68))].length) * 288 <= zg then (if (z61.2.2.2.2.2.2.2.1 + 0) + 1 <= z61.2.2.2.2.2.2.2.2.2.2.2.2.1.length then (ke (.inr (z61.1, z61.2.1, z61.2.2.1, z61.2.2.2.1, z61.2.2.2.2.1, z61.2.2.2.2.2.1, z61.2.2.2.2.2.2.2.1, z61.2.2.2.2.2.2.2.2.1, z61.2.2.2.2.2.2.2.2.2.1, z61.2.2.2.2.2.2.2.2.2.2.1, z61.2.2.2.2.2.2.2.2.2.2.2.1, ((splice z61.2.2.2.2.2.2.2.2.2.2.2.2.1 (z61.2.2.2.2.2.2.2.1 + 0) [(AV.list 29 (l64 ++ [(zQ (1, z61.2.2.2.1, (⟨#[]⟩ : ByteArray), 0, y68))]) (some 7040))]).map datF), (z61.2.2.2.2.2.2.2.2.2.2.2.2.2.1.map dat0), ((z61.2.2.2.2.2.2.2.1 + 0) + 1), z61.2.2.2.2.2.2.2.2.2.2.2.2.2.2.2))) else none) else none) | none => none) | none => none) | none => none) else none) else none) | _ => none) | none => none)) | none => none) | false => (match (u33.2.2.2.2.2.2.2.2.2.2.2.2.2.1.1 == 2) with | true => (ke (.inl (u33.1, u33.2.1, u33.2.2.1, u33.2.2.2.1, u33.2.2.2.2.1, u33.2.2.2.2.2.1, u33.2.2.2.2.2.2.2.1, u33.2.2.2.2.2.2.2.2.1, u33.2.2.2.2.2.2.2.2.2.1, u33.2.2.2.2.2.2.2.2.2.2.2.1, u33.2.2.2.2.2.2.2.2.2.2.2.2.1, (u33.2.2.2.2.2.2.2.2.2.2.2.2.2.2.1.map datF), (u33.2.2.2.2.2.2.2.2.2.2.2.2.2.2.2.1.map dat0), u33.2.2.2.2.2.2.2.2.2.2.2.2.2.2.2.2))) | false => (match u33.2.2.2.2.2.2.2.2.2.2.2.2.2.2.1[(u33.2.2.2.2.2.2.2.1 + 0)]? with | some c69 => (match c69 with | .list n70 l71 (some q72) => (if n70 = 29 /\ q72 = TOB + (u33.2.2.2.2.2.2.2.1 + 0) /\ u33.2.2.2.2.2.2.2.2.2.2.2.2.2.2.2.2.1 <= (u33.2.2.2.2.2.2.2.1 + 0) /\ (u33.2.2.2.2.2.2.2.1 + 0) < u33.2.2.2.2.2.2.2.2.2.2.2.2.2.2.2.2.2 then (match zdW N (zx u33.2.2.2.2.2.2.2.2.2.2.2.2.2.1) with | some y73 => (if (l71.length + [(zQ (2, u33.2.2.2.1, (⟨#[]⟩ : ByteArray), 0, y73))].length) * 288 <= zg then (if (u33.2.2.2.2.2.2.2.1 + 0) + 1 <= u33.2.2.2.2.2.2.2.2.2.2.2.2.2.2.1.length then (ke (.inr (u33.1, u33.2.1, u33.2.2.1, u33.2.2.2.1, u33.2.2.2.2.1, u33.2.2.2.2.2.1, u33.2.2.2.2.2.2.2.1, u33.2.2.2.2.2.2.2.2.1, u33.2.2.2.2.2.2.2.2.2.1, u33.2.2.2.2.2.2.2.2.2.2.2.1, u33.2.2.2.2.2.2.2.2.2.2.2.2.1, ((splice u33.2.2.2.2.2.2.2.2.2.2.2.2.2.2.1 (u33.2.2.2.2.2.2.2.1 + 0) [(AV.list 29 (l71 ++ [(zQ (2, u33.2.2.2.1, (⟨#[]⟩ : ByteArray), 0, y73))]) (some 4672))]).map datF), (u33.2.2.2.2.2.2.2.2.2.2.2.2.2.2.2.1.map dat0), ((u33.2.2.2.2.2.2.2.1 + 0) + 1), u33.2.2.2.2.2.2.2.2.2.2.2.2.2.2.2.2.2))) else none) else none) | none => none) else none) | _ => none) | none => none)))
abbrev zeX (N : Nat) (x : qL × qL × qL × Int × Nat × Int × Int × Nat × Int × Int × Bool × qL × Nat × RT7 × qA × qA × Nat × Nat) : Option ((qL × qL × qL × Int × Nat × Int × Nat × Int × Int × qL × Nat × qA × qA × Nat × Nat) ⊕ (qL × qL × qL × Int × Nat × Int × Nat × Int × Int × qL × Nat × qA × qA × Nat × Nat)) := (ji N).L N x
def Ji (N : Nat) : LSpec where
 X := qL × qL × qL × Int × Nat × Int × Int × Nat × Int × Int × Bool × qL × Nat × RT7 × qA × qA × Nat × Nat
 Y := (qL × qL × qL × Int × Nat × Int × Int × Nat × Int × Int × qL × Nat × RT7 × qA × qA × Nat × Nat)
 p := λ s => rdF 166 0 36 [(11, .tok 1 1280000704), (1, .lst 25), (42, .lst 1), (2, .int .i64), (6, .ptr 6 0), (10, .ptr 10 0), (12, .vs0 39 1), (13, .int .i64), (14, .int .i64), (15, .ptrV 36), (16, .ptr 16 0), (43, .int .i64), (44, .int .i64), (58, .bool)] [(6, .cells [.tok 1 6401572864]), (10, .cells [.vs0 36 1]), (16, .row RK7), (36, .tt), (39, .tt)] s λ ⟨a0, a1, a2, a3, _, _, a4, a5, a6, a7, _, a8, a9, a10, _⟩ ⟨⟨a11, _⟩, ⟨a12, _⟩, a13, a14, a15, _⟩ a16 a17 => (a0, a1, a2, a3, a4, a5, a6, a7, a8, a9, a10, a11, a12, a13, a14, a15, a16, a17)
 st := λ u27 => mkF 166 [(11, (AV.list 1 u27.1 (some 1280000704))), (1, (AV.list 25 u27.2.1 none)), (42, (AV.list 1 u27.2.2.1 none)), (2, (qI u27.2.2.2.1)), (6, (AV.ptr 6 0)), (10, (AV.ptr 10 0)), (12, (AV.vs 39 0 u27.2.2.2.2.1 1)), (13, (qI u27.2.2.2.2.2.1)), (14, (qI u27.2.2.2.2.2.2.1)), (15, (AV.ptr 36 u27.2.2.2.2.2.2.2.1)), (16, (AV.ptr 16 0)), (43, (qI u27.2.2.2.2.2.2.2.2.1)), (44, (qI u27.2.2.2.2.2.2.2.2.2.1)), (58, (AV.v (.bool u27.2.2.2.2.2.2.2.2.2.2.1)))] [(6, [(AV.list 1 u27.2.2.2.2.2.2.2.2.2.2.2.1 (some 6401572864))]), (10, [(AV.vs 36 0 u27.2.2.2.2.2.2.2.2.2.2.2.2.1 1)]), (16, (zQ u27.2.2.2.2.2.2.2.2.2.2.2.2.2.1)), (36, u27.2.2.2.2.2.2.2.2.2.2.2.2.2.2.1), (39, u27.2.2.2.2.2.2.2.2.2.2.2.2.2.2.2.1)] (Zi 27).1.toks 0 (some (36, u27.2.2.2.2.2.2.2.2.2.2.2.2.2.2.2.2.1, u27.2.2.2.2.2.2.2.2.2.2.2.2.2.2.2.2.2))
 out := λ y => (.normal, mkF 166 [(11, (AV.list 1 y.1 (some 1280000704))), (1, (AV.list 25 y.2.1 none)), (42, (AV.list 1 y.2.2.1 none)), (2, (qI y.2.2.2.1)), (6, (AV.ptr 6 0)), (10, (AV.ptr 10 0)), (12, (AV.vs 39 0 y.2.2.2.2.1 1)), (13, (qI y.2.2.2.2.2.1)), (14, (qI y.2.2.2.2.2.2.1)), (15, (AV.ptr 36 y.2.2.2.2.2.2.2.1)), (16, (AV.ptr 16 0)), (43, (qI y.2.2.2.2.2.2.2.2.1)), (44, (qI y.2.2.2.2.2.2.2.2.2.1))] [(6, [(AV.list 1 y.2.2.2.2.2.2.2.2.2.2.1 (some 6401572864))]), (10, [(AV.vs 36 0 y.2.2.2.2.2.2.2.2.2.2.2.1 1)]), (16, (zQ y.2.2.2.2.2.2.2.2.2.2.2.2.1)), (36, y.2.2.2.2.2.2.2.2.2.2.2.2.2.1), (39, y.2.2.2.2.2.2.2.2.2.2.2.2.2.2.1)] (Zi 27).2.toks 0 (some (36, y.2.2.2.2.2.2.2.2.2.2.2.2.2.2.2.1, y.2.2.2.2.2.2.2.2.2.2.2.2.2.2.2.2)))
 b := λ u27 α kn ke => (match u27.2.2.2.2.2.2.2.2.2.2.1 with | true => (if 0 <= u27.2.2.2.2.2.2.1 /\ u27.2.2.2.2.2.2.1 < (u27.2.2.2.2.1 : Int) then (if ((0 + u27.2.2.2.2.2.2.1.toNat) * 1) + 1 <= u27.2.2.2.2.2.2.2.2.2.2.2.2.2.2.2.1.length then (ke (u27.1, u27.2.1, u27.2.2.1, u27.2.2.2.1, u27.2.2.2.2.1, u27.2.2.2.2.2.1, u27.2.2.2.2.2.2.1, u27.2.2.2.2.2.2.2.1, u27.2.2.2.2.2.2.2.2.1, u27.2.2.2.2.2.2.2.2.2.1, u27.2.2.2.2.2.2.2.2.2.2.2.1, u27.2.2.2.2.2.2.2.2.2.2.2.2.1, u27.2.2.2.2.2.2.2.2.2.2.2.2.2.1, (u27.2.2.2.2.2.2.2.2.2.2.2.2.2.2.1.map datF), ((splice u27.2.2.2.2.2.2.2.2.2.2.2.2.2.2.2.1 ((0 + u27.2.2.2.2.2.2.1.toNat) * 1) [(AV.v (.bool true))]).map dat0), u27.2.2.2.2.2.2.2.2.2.2.2.2.2.2.2.2)) else none) else none) | false => (ke (u27.1, u27.2.1, u27.2.2.1, u27.2.2.2.1, u27.2.2.2.2.1, u27.2.2.2.2.2.1, u27.2.2.2.2.2.2.1, u27.2.2.2.2.2.2.2.1, u27.2.2.2.2.2.2.2.2.1, u27.2.2.2.2.2.2.2.2.2.1, u27.2.2.2.2.2.2.2.2.2.2.2.1, u27.2.2.2.2.2.2.2.2.2.2.2.2.1, u27.2.2.2.2.2.2.2.2.2.2.2.2.2.1, (u27.2.2.2.2.2.2.2.2.2.2.2.2.2.2.1.map datF), (u27.2.2.2.2.2.2.2.2.2.2.2.2.2.2.2.1.map dat0), u27.2.2.2.2.2.2.2.2.2.2.2.2.2.2.2.2)))
abbrev zlV (N : Nat) (x : qL × qL × qL × Int × Nat × Int × Int × Nat × Int × Int × Bool × qL × Nat × RT7 × qA × qA × Nat × Nat) : Option ((qL × qL × qL × Int × Nat × Int × Int × Nat × Int × Int × qL × Nat × RT7 × qA × qA × Nat × Nat)) := (Ji N).L N x
def zZ (N : Nat) : LSpec where
 X := qL × qL × qL × Int × Nat × Int × Int × qL × Nat × qA × qA × Nat × Nat
 Y := (qL × qL × qL × Int × Int × Nat × qL × Nat × qA × qA × Nat × Nat) ⊕ (qL × qL × Int × Nat × qL × Nat × qA × qA × Nat × Nat)
 p := λ s => rdF 166 0 36 [(11, .tok 1 1280000704), (1, .lst 25), (42, .lst 1), (2, .int .i64), (6, .ptr 6 0), (10, .ptr 10 0), (12, .vs0 39 1), (43, .int .i64), (44, .int .i64)] [(6, .cells [.tok 1 6401572864]), (10, .cells [.vs0 36 1]), (36, .tt), (39, .tt)] s λ ⟨a0, a1, a2, a3, _, _, a4, a5, a6, _⟩ ⟨⟨a7, _⟩, ⟨a8, _⟩, a9, a10, _⟩ a11 a12 => (a0, a1, a2, a3, a4, a5, a6, a7, a8, a9, a10, a11, a12)
 st := λ u16 => mkF 166 [(11, (AV.list 1 u16.1 (some 1280000704))), (1, (AV.list 25 u16.2.1 none)), (42, (AV.list 1 u16.2.2.1 none)), (2, (qI u16.2.2.2.1)), (6, (AV.ptr 6 0)), (10, (AV.ptr 10 0)), (12, (AV.vs 39 0 u16.2.2.2.2.1 1)), (43, (qI u16.2.2.2.2.2.1)), (44, (qI u16.2.2.2.2.2.2.1))] [(6, [(AV.list 1 u16.2.2.2.2.2.2.2.1 (some 6401572864))]), (10, [(AV.vs 36 0 u16.2.2.2.2.2.2.2.2.1 1)]), (36, u16.2.2.2.2.2.2.2.2.2.1), (39, u16.2.2.2.2.2.2.2.2.2.2.1)] (Zi 16).1.toks 0 (some (36, u16.2.2.2.2.2.2.2.2.2.2.2.1, u16.2.2.2.2.2.2.2.2.2.2.2.2))
 out := λ y => match y with
  | .inl y => (.ret, mkF 166 [(11, (AV.list 1 y.1 (some 1280000704))), (1, (AV.list 25 y.2.1 none)), (7, (AV.list 1 y.2.2.1 none)), (2, (qI y.2.2.2.1)), (6, (AV.ptr 6 0)), (8, (qI y.2.2.2.2.1)), (10, (AV.ptr 10 0)), (12, (AV.vs 39 0 y.2.2.2.2.2.1 1))] [(6, [(AV.list 1 y.2.2.2.2.2.2.1 (some 6401572864))]), (10, [(AV.vs 36 0 y.2.2.2.2.2.2.2.1 1)]), (36, y.2.2.2.2.2.2.2.2.1), (39, y.2.2.2.2.2.2.2.2.2.1)] (Zi 16).2.toks 0 (some (36, y.2.2.2.2.2.2.2.2.2.2.1, y.2.2.2.2.2.2.2.2.2.2.2)))
  | .inr y => (.exit 0, mkF 166 [(11, (AV.list 1 y.1 (some 1280000704))), (1, (AV.list 25 y.2.1 none)), (2, (qI y.2.2.1)), (6, (AV.ptr 6 0)), (10, (AV.ptr 10 0)), (12, (AV.vs 39 0 y.2.2.2.1 1))] [(6, [(AV.list 1 y.2.2.2.2.1 (some 6401572864))]), (10, [(AV.vs 36 0 y.2.2.2.2.2.1 1)]), (36, y.2.2.2.2.2.2.1), (39, y.2.2.2.2.2.2.2.1)] (Zi 16).2.toks 0 (some (36, y.2.2.2.2.2.2.2.2.1, y.2.2.2.2.2.2.2.2.2)))
 b := λ u16 α kn ke => (match (decide (u16.2.2.2.2.2.2.1 < u16.2.2.2.2.2.1)) with | true => (if 0 <= u16.2.2.2.2.2.2.1 then (match u16.2.2.1[u16.2.2.2.2.2.2.1.toNat]? with | some c79 => (match c79[0]? with | some x80 => (match x80 with | .v (.int q82 n81) => (if q82 = .i64 then (if 0 <= u16.2.2.2.2.2.2.1 /\ u16.2.2.2.2.2.2.1 < (u16.2.2.2.2.2.2.2.2.1 : Int) then (match zdO (u16.2.2.2.2.2.2.2.2.2.1.drop ((0 + u16.2.2.2.2.2.2.1.toNat) * 1)) with | some e83 => (match zmC N e83.1 with | some y84 => (match zlV N (u16.1, u16.2.1, u16.2.2.1, u16.2.2.2.1, u16.2.2.2.2.1, u16.2.2.2.2.2.2.1, n81, ((0 + u16.2.2.2.2.2.2.1.toNat) * 1), u16.2.2.2.2.2.1, u16.2.2.2.2.2.2.1, (decide (n81 >= 0)), u16.2.2.2.2.2.2.2.1, u16.2.2.2.2.2.2.2.2.1, y84, (u16.2.2.2.2.2.2.2.2.2.1.map datF), (u16.2.2.2.2.2.2.2.2.2.2.1.map dat0), u16.2.2.2.2.2.2.2.2.2.2.2) with | some y85 => (match zra N y85.2.2.2.2.2.2.2.2.2.2.2.2.1.1 with | some y86 => (match (!y86) with | true => (kn (y85.1, y85.2.1, y85.2.2.1, y85.2.2.2.1, y85.2.2.2.2.1, y85.2.2.2.2.2.2.2.2.1, (i64 (y85.2.2.2.2.2.2.2.2.2.1 + 1)), y85.2.2.2.2.2.2.2.2.2.2.1, y85.2.2.2.2.2.2.2.2.2.2.2.1, (y85.2.2.2.2.2.2.2.2.2.2.2.2.2.1.map datF), (y85.2.2.2.2.2.2.2.2.2.2.2.2.2.2.1.map dat0), y85.2.2.2.2.2.2.2.2.2.2.2.2.2.2.2)) | false => (match zeX N (y85.1, y85.2.1, y85.2.2.1, y85.2.2.2.1, y85.2.2.2.2.1, y85.2.2.2.2.2.1, y85.2.2.2.2.2.2.1, y85.2.2.2.2.2.2.2.1, y85.2.2.2.2.2.2.2.2.1, y85.2.2.2.2.2.2.2.2.2.1, (decide (y85.2.2.2.2.2.2.1 >= 0)), y85.2.2.2.2.2.2.2.2.2.2.1, y85.2.2.2.2.2.2.2.2.2.2.2.1, y85.2.2.2.2.2.2.2.2.2.2.2.2.1, (y85.2.2.2.2.2.2.2.2.2.2.2.2.2.1.map datF), (y85.2.2.2.2.2.2.2.2.2.2.2.2.2.2.1.map dat0), y85.2.2.2.2.2.2.2.2.2.2.2.2.2.2.2) with | some y87 => (match y87 with | .inl z88 => (kn (z88.1, z88.2.1, z88.2.2.1, z88.2.2.2.1, z88.2.2.2.2.1, z88.2.2.2.2.2.2.2.1, (i64 (z88.2.2.2.2.2.2.2.2.1 + 1)), z88.2.2.2.2.2.2.2.2.2.1, z88.2.2.2.2.2.2.2.2.2.2.1, (z88.2.2.2.2.2.2.2.2.2.2.2.1.map datF), (z88.2.2.2.2.2.2.2.2.2.2.2.2.1.map dat0), z88.2.2.2.2.2.2.2.2.2.2.2.2.2)) | .inr z89 => (match z89.2.2.2.2.2.2.2.2.2.2.2.1[(z89.2.2.2.2.2.2.1 + 0)]? with | some x90 => (match jZ 29 x90 with | some l91 => (match (decide ((l91.length : Int) > 100)) with | true => (ke (.inl (z89.1, z89.2.1, ([] : qL), z89.2.2.2.1, 8, z89.2.2.2.2.1, ([] : qL), z89.2.2.2.2.2.2.2.2.2.2.1, (z89.2.2.2.2.2.2.2.2.2.2.2.1.map datF), (z89.2.2.2.2.2.2.2.2.2.2.2.2.1.map dat0), z89.2.2.2.2.2.2.2.2.2.2.2.2.2))) | false => (if (z89.1.length + [[(AV.v (.int .i64 z89.2.2.2.2.2.1))]].length) * 8 <= zg then (kn ((z89.1 ++ [[(AV.v (.int .i64 z89.2.2.2.2.2.1))]]), z89.2.1, z89.2.2.1, z89.2.2.2.1, z89.2.2.2.2.1, z89.2.2.2.2.2.2.2.1, (i64 (z89.2.2.2.2.2.2.2.2.1 + 1)), z89.2.2.2.2.2.2.2.2.2.1, z89.2.2.2.2.2.2.2.2.2.2.1, (z89.2.2.2.2.2.2.2.2.2.2.2.1.map datF), (z89.2.2.2.2.2.2.2.2.2.2.2.2.1.map dat0), z89.2.2.2.2.2.2.2.2.2.2.2.2.2)) else none)) | none => none) | none => none)) | none => none)) | none => none) | none => none) | none => none) | none => none) else none) else none) | _ => none) | none => none) | none => none) else none) | false => (ke (.inr (u16.1, u16.2.1, u16.2.2.2.1, u16.2.2.2.2.1, u16.2.2.2.2.2.2.2.1, u16.2.2.2.2.2.2.2.2.1, (u16.2.2.2.2.2.2.2.2.2.1.map datF), (u16.2.2.2.2.2.2.2.2.2.2.1.map dat0), u16.2.2.2.2.2.2.2.2.2.2.2))))
abbrev zlU (N : Nat) (x : qL × qL × qL × Int × Nat × Int × Int × qL × Nat × qA × qA × Nat × Nat) : Option ((qL × qL × qL × Int × Int × Nat × qL × Nat × qA × qA × Nat × Nat) ⊕ (qL × qL × Int × Nat × qL × Nat × qA × qA × Nat × Nat)) := (zZ N).L N x
def zdQ (N : Nat) : FSpec where
 X := qL × qL × Int
 Y := qL × qL × Int
 ash := [[some 1], [some 25], [none]]
 S := ⟨[[some 1], [some 1], [none]], [], [], [], []⟩
 pat := λ a b => zl a λ v1 c2 => jA v1 λ c3 => zl c3 λ c4 c5 => jg 1 c4 λ a0 => zV c5 <| zl c2 λ v6 c7 => jg 25 v6 λ a1 => zl c7 λ v8 c9 => Jo .i64 v8 λ a2 => zV c9 <| zV b <| some (a0, a1, a2)
 args := λ x => [(AV.agg [(AV.list 1 x.1 none)]), (AV.list 25 x.2.1 none), (AV.v (.int .i64 x.2.2))]
 ret := λ y => ⟨(AV.tup [(AV.agg [(AV.list 1 y.1 none)]), (AV.list 1 y.2.1 none), (AV.v (.int .i64 y.2.2))]), [], none, [], [], [], none⟩
 t := λ x α k => (match zjO N x.1 with | some y1 => (match (!y1) with | true => (k (([] : qL), ([] : qL), 1)) | false => (match zhp N x.2.1 with | some y2 => (match (!y2) with | true => (k (([] : qL), ([] : qL), 1)) | false => (match zq3 N (x.1, x.2.2) with | some y3 => (match (y3 != 0) with | true => (k (([] : qL), ([] : qL), y3)) | false => (match ziA N x.1 with | some y4 => (if 0 <= (x.2.1.length : Int) /\ (x.2.1.length : Int) <= (x.2.1.length : Int) /\ (x.2.1.length : Int).toNat * 1 <= zg then (match zl3 N (x.1, x.2.1) with | some y5 => (match zlU N (([] : qL), x.2.1, y5, x.2.2, ((x.2.1.length : Int).toNat), (y5.length : Int), 0, ([] : qL), y4.1, ((y4.2.1.map (datJ y4.2.2.1 y4.2.2.2)).map datF), ((List.replicate (x.2.1.length : Int).toNat (AV.v (.bool false))).map dat0), y4.2.2) with | some y92 => (match y92 with | .inl z93 => (k (z93.2.2.2.2.2.2.1, z93.2.2.1, z93.2.2.2.2.1)) | .inr z94 => (match zlW N (z94.1, z94.2.1, z94.2.2.1, z94.2.2.2.1, (z94.2.1.length : Int), 0, z94.2.2.2.2.1, z94.2.2.2.2.2.1, (z94.2.2.2.2.2.2.2.1.map dat0), (z94.2.2.2.2.2.2.1.map dat0)) with | some y105 => (match (decide (((y105.2.2.1 : Nat) : Int) > 500)) with | true => (k (([] : qL), ([] : qL), 8)) | false => (if y105.2.2.1 * 1 <= y105.2.2.2.length then (k ((zK (y105.2.2.2.take (y105.2.2.1 * 1)) 1 y105.2.2.1), y105.1, 0)) else none)) | none => none)) | none => none) | none => none) else none) | none => none)) | none => none)) | none => none)) | none => none)
abbrev zjJ (N : Nat) (x : qL × qL × Int) : Option (qL × qL × Int) := (zdQ N).d x
def jp (N : Nat) : List (Nat × LSpec) := [(16, zZ N), (27, Ji N), (33, ji N), (35, jv N), (46, ZC N)]
def jO : Code := Tryd.f10.body.getD .skip
theorem zl1 (N : Nat) : Par (ZC N).b := by
 intro x α β kn ke kn' ke' r r' h h1 h2
 revert h
 dsimp only [ZC]
 (repeat' (first | (with_reducible refine ze ?_ ?_) | split)) <;> intro h <;> first | exact h1 _ h | exact h2 _ h | cases h
theorem zjI (N : Nat) : Z3 (JQ qP [36, 66, 101, 156]) (zjK N) Zi N (jp N) 46 jO (ZC N) := λ x α kn ke => by kernel_rfl
theorem zjM (N : Nat) : ZB qP Zi N (jp N) 46 (zb 46 jO) :=
 zD (zL qP [36, 66, 101, 156]) (zh _) zk Zi N (jp N) 46 jO (l := []) (by kernel_rfl) (by kernel_rfl) an (ZC N) rfl (λ s x hc h => by dsimp only [ZC] at h; exact zG hc h (λ _ _ => rfl) rfl rfl rfl) (λ _ => rfl) (zjI N) (zl1 N)
theorem zl0 (N : Nat) : Par (jv N).b := by
 intro x α β kn ke kn' ke' r r' h h1 h2
 revert h
 dsimp only [jv]
 (repeat' (first | (with_reducible refine ze ?_ ?_) | split)) <;> intro h <;> first | exact h1 _ h | exact h2 _ h | cases h
theorem zjH (N : Nat) : zlz (JQ qP [36, 66, 101, 156]) (zjK N) Zi N (jp N) 35 jO (jv N) := λ x α kn ke => by kernel_rfl
theorem zbf (N : Nat) : ZB qP Zi N (jp N) 35 (zb 35 jO) :=
 j5 (zL qP [36, 66, 101, 156]) (zh _) zk Zi N (jp N) 35 jO (l := []) (by kernel_rfl) an (jv N) rfl (λ s x hc h => by dsimp only [jv] at h; exact za9 hc h (λ _ _ _ _ => rfl) rfl rfl) (zjH N) (zl0 N)
theorem zlZ (N : Nat) : Par (ji N).b := by
 intro x α β kn ke kn' ke' r r' h h1 h2
 revert h
 dsimp only [ji]
 (repeat' (first | (with_reducible refine ze ?_ ?_) | split)) <;> intro h <;> first | exact h1 _ h | exact h2 _ h | cases h
theorem zjG (N : Nat) : zlz (JQ qP [36, 66, 101, 156]) (zjK N) Zi N (jp N) 33 jO (ji N) := λ x α kn ke => by kernel_rfl
theorem zej (N : Nat) : ZB qP Zi N (jp N) 33 (zb 33 jO) :=
 j5 (zL qP [36, 66, 101, 156]) (zh _) zk Zi N (jp N) 33 jO (l := [(35, zb 35 jO)]) (by kernel_rfl) (al (zbf N) an) (ji N) rfl (λ s x hc h => by dsimp only [ji] at h; exact za9 hc h (λ _ _ _ _ => rfl) rfl rfl) (zjG N) (zlZ N)
theorem zlY (N : Nat) : Par (Ji N).b := by
 intro x α β kn ke kn' ke' r r' h h1 h2
 revert h
 dsimp only [Ji]
 (repeat' (first | (with_reducible refine ze ?_ ?_) | split)) <;> intro h <;> first | exact h1 _ h | exact h2 _ h | cases h
theorem zjF (N : Nat) : zlz (JQ qP [36, 66, 101, 156]) (zjK N) Zi N (jp N) 27 jO (Ji N) := λ x α kn ke => by kernel_rfl
theorem zei (N : Nat) : ZB qP Zi N (jp N) 27 (zb 27 jO) :=
 j5 (zL qP [36, 66, 101, 156]) (zh _) zk Zi N (jp N) 27 jO (l := []) (by kernel_rfl) an (Ji N) rfl (λ s x hc h => by dsimp only [Ji] at h; exact za9 hc h (λ _ _ _ _ => rfl) rfl rfl) (zjF N) (zlY N)
theorem zlX (N : Nat) : Par (zZ N).b := by
 intro x α β kn ke kn' ke' r r' h h1 h2
 revert h
 dsimp only [zZ]
 (repeat' (first | (with_reducible refine ze ?_ ?_) | split)) <;> intro h <;> first | exact h1 _ h | exact h2 _ h | cases h
theorem zjE (N : Nat) : Z3 (JQ qP [36, 66, 101, 156]) (zjK N) Zi N (jp N) 16 jO (zZ N) := λ x α kn ke => by kernel_rfl
theorem zjL (N : Nat) : ZB qP Zi N (jp N) 16 (zb 16 jO) :=
 zD (zL qP [36, 66, 101, 156]) (zh _) zk Zi N (jp N) 16 jO (l := [(27, zb 27 jO), (33, zb 33 jO), (35, zb 35 jO)]) (by kernel_rfl) (by kernel_rfl) (al (zei N) (al (zej N) (al (zbf N) an))) (zZ N) rfl (λ s x hc h => by dsimp only [zZ] at h; exact za9 hc h (λ _ _ _ _ => rfl) rfl rfl) (λ _ => rfl) (zjE N) (zlX N)
theorem zql (N : Nat) : Zd (zdQ N).t := by
 intro x α β k k' r r' h h1
 revert h
 dsimp only [zdQ]
 (repeat' (first | (with_reducible refine ze ?_ ?_) | split)) <;> intro h <;> first | exact h1 _ h | cases h
theorem zqm (N : Nat) : Zg (JQ qP [36, 66, 101, 156]) (zjK N) Zi (lam N (jp N)) Tryd.f10 (zdQ N) := λ x => by kernel_rfl
theorem zxb (N : Nat) (a : List AV) (b : qL) (x : (zdQ N).X) (h : (zdQ N).pat a b = some x) : a = (zdQ N).args x /\ b = (zdQ N).bs x := by
 obtain ⟨v1, c2, rfl, g0⟩ := zd (show zl _ _ = some x from h)
 obtain ⟨c3, rfl, g1⟩ := zW g0; clear g0
 obtain ⟨c4, c5, rfl, g2⟩ := zd g1; clear g1
 obtain ⟨a0, rfl, g3⟩ := zr g2; clear g2
 obtain ⟨rfl, g4⟩ := zi g3; clear g3
 obtain ⟨v6, c7, rfl, g5⟩ := zd g4; clear g4
 obtain ⟨a1, rfl, g6⟩ := zr g5; clear g5
 obtain ⟨v8, c9, rfl, g7⟩ := zd g6; clear g6
 obtain ⟨a2, rfl, g8⟩ := zJ g7; clear g7
 obtain ⟨rfl, g9⟩ := zi g8; clear g8
 obtain ⟨rfl, g10⟩ := zi g9; clear g9
 clear h
 cases g10
 exact ⟨rfl, rfl⟩
def zzE (N : Nat) : Ent qP := zA (zL qP [36, 66, 101, 156]) (zh _) zk 10 Tryd.f10 Tryd.func10 rfl Zi (lam N (jp N)) (zm (l := [(16, zb 16 jO), (27, zb 27 jO), (33, zb 33 jO), (35, zb 35 jO), (46, zb 46 jO)]) (al (zjL N) (al (zei N) (al (zej N) (al (zbf N) (al (zjM N) an))))) (by kernel_rfl)) (zdQ N) (λ _ => ⟨rfl, rfl⟩) (zqm N) (zxb N) (zql N)
end
end Go.Proofs.YthdgnfcbehcplaaDoor
end
