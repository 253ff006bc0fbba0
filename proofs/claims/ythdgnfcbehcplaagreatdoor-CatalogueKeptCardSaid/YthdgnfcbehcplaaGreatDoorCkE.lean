/- Several texts as one (written by pack.py). -/
import Derived.Test.YthdgnfcbehcplaaGreatDoorCkD
set_option linter.unusedVariables false
set_option linter.unusedSimpArgs false
set_option linter.unnecessarySimpa false
section
namespace Go.Proofs.YthdgnfcbehcplaaGreatDoor
noncomputable section
open Go.RowKit
set_option maxRecDepth 4000
set_option maxHeartbeats 4000000
def zwM : Nat -> Keep × Keep := anL []
def zDP (N : Nat) : GamK := gam (P := qP) []
def zoR (N : Nat) : FSpec where
 X := qL
 Y := qL
 ash := [[some 29]]
 S := ⟨[[none]], [], [some 29], [], []⟩
 pat := fun a b => rdA [.lst 29] [] a b fun ⟨a0, _⟩ _ => a0
 args := fun x => [(AV.list 29 x none)]
 ret := fun y => ⟨(AV.fn (.func 92) [] [(AV.ptr 0 0)]), [], some [(AV.list 29 y none)], [], [], [], none⟩
 t := fun x α k => (k x)
abbrev zBm (N : Nat) (x : qL) : Option (qL) := (zoR N).d x
theorem zs5 (N : Nat) : Zc (zoR N).t := by
 intro x α β k k' r r' h h1
 revert h
 dsimp only [zoR]
 (repeat' (first | (with_reducible refine ze ?_ ?_) | split)) <;> intro h <;> first | exact h1 _ h | cases h
theorem zs6 (N : Nat) : Ze (zn qP) (zDP N) zwM (lam N []) Tryz.f59 (zoR N) := fun x => by kernel_rfl
def zDO (N : Nat) : Ent qP := zx (zd qP) (zi _) zl 59 Tryz.f59 Tryz.func59 rfl zwM (lam N []) (zm (l := []) an (by kernel_rfl)) (zoR N) (fun _ => ⟨rfl, rfl⟩) (zs6 N) (fun _ _ _ h => zu h (fun _ _ => rfl) (fun _ _ => rfl)) (zs5 N)
def zeD : Nat -> Keep × Keep := anL []
def znX (N : Nat) : GamK := gam (P := qP) [zsX N]
def ZJ (N : Nat) : FSpec where
 X := Int × RT7 × Int × qL
 Y := Bool × Int × qL
 ash := []
 S := ⟨[], [[none], [some 2000025]], [], [6400262144], []⟩
 pat := fun a b => rdA [.any, .any, .any, .ptr 0 0, .any, .ptr 1 0, .any, .any, .any, .any, .any, .any, .any, .any, .any, .any, .any, .any, .any, .any, .any, .any, .any, .int .i64, .agg RK7, .any, .any, .any, .any, .any, .any, .any, .any, .any, .any, .any, .any, .any, .any, .any, .any] [.cells [.int .i64], .cells [.tok 25 6400262144]] a b fun ⟨_, _, _, _, _, _, _, _, _, _, _, _, _, _, _, _, _, _, _, _, _, _, _, a0, a1, _, _, _, _, _, _, _, _, _, _, _, _, _, _, _, _, _⟩ ⟨⟨a2, _⟩, ⟨a3, _⟩, _⟩ => (a0, a1, a2, a3)
 args := fun x => [AV.any, AV.any, AV.any, (AV.ptr 0 0), AV.any, (AV.ptr 1 0), AV.any, AV.any, AV.any, AV.any, AV.any, AV.any, AV.any, AV.any, AV.any, AV.any, AV.any, AV.any, AV.any, AV.any, AV.any, AV.any, AV.any, (AV.v (.int .i64 x.1)), (AV.agg (zK x.2.1)), AV.any, AV.any, AV.any, AV.any, AV.any, AV.any, AV.any, AV.any, AV.any, AV.any, AV.any, AV.any, AV.any, AV.any, AV.any, AV.any]
 bs := fun x => [[(AV.v (.int .i64 x.2.2.1))], [(AV.list 25 x.2.2.2 (some 6400262144))]]
 ret := fun y => ⟨.v (.bool y.1), [[(AV.v (.int .i64 y.2.1))], [(AV.list 25 y.2.2 (some 6400262144))]], none, [6400262144], [6400262144], [], none⟩
 t := fun x α k => (match (decide (x.2.1.2.1 <= x.2.2.1)) with | true => (if 0 <= x.2.1.1 /\ x.2.1.1 < 7 then (match ((gtab0.map AV.v).drop (x.2.1.1.toNat * 1))[0]? with | some x1 => (match x1 with | .v (.bool b2) => (match b2 with | true => (match zcs N (zw x.2.1) with | some y3 => (if (x.2.2.2.length + [(zB y3)].length) * 248 <= zh then (k (false, x.2.2.1, (x.2.2.2 ++ [(zB y3)]))) else none) | none => none) | false => (k (false, x.2.2))) | _ => none) | none => none) else none) | false => (k (true, x.2.2)))
abbrev zc1 (N : Nat) (x : Int × RT7 × Int × qL) : Option (Bool × Int × qL) := (ZJ N).d x
def zbu : Code := zCL (zc 17 (Tryz.f30.body.getD .skip))
def zbv : Code := zzS (zc 17 (Tryz.f30.body.getD .skip))
theorem zgA (N : Nat) : Zc (ZJ N).t := by
 intro x α β k k' r r' h h1
 revert h
 dsimp only [ZJ]
 (repeat' (first | (with_reducible refine ze ?_ ?_) | split)) <;> intro h <;> first | exact h1 _ h | cases h
theorem zgB (N : Nat) (x : (ZJ N).X) : zjf (zn qP) (znX N) zeD (lam N []) zbu zbv 9000 9100 2 (ZJ N).S ((ZJ N).args x) ((ZJ N).bs x) = (ZJ N).t x Ret (fun y => some ((ZJ N).ret y)) := by kernel_rfl
def zgz (N : Nat) : REnt qP zbu zbv 2 := zCP (zd qP) (zi _) zl zeD (lam N []) zbu zbv 9000 9100 2 (by kernel_rfl) (by kernel_rfl) (ZJ N) (fun _ => ⟨rfl, rfl⟩) (zgB N) (fun _ _ _ h => zu h (fun _ _ => rfl) (fun _ _ => rfl)) (zgA N)
def JT : Nat -> Keep × Keep := anL [(9, ⟨[3, 5, 15, 16], [], [3, 5], [(14, 1)], [((5, 0), 25)], [], [], [], false, none, []⟩, ⟨[5], [], [5], [], [((5, 0), 25)], [], [], [], false, none, []⟩), (17, ⟨[3, 5, 15, 16, 22], [], [3, 5, 22], [(14, 1)], [((5, 0), 25)], [], [], [], true, none, []⟩, ⟨[3, 5, 15, 16], [], [3, 5], [(14, 1)], [((5, 0), 25)], [], [], [], false, none, []⟩)]
def zA0 (N : Nat) : GamK := gam (P := qP) [zrS N, zDO N]
def Zd (N : Nat) : LSpec where
 X := qL × Int × Int × Int × qL × qL × Nat
 Y := (qL × Int × Int × Int × qL)
 p := fun s => rdS 41 0 [(14, .lst 1), (3, .ptr 3 0), (5, .ptr 5 0), (15, .int .i64), (16, .int .i64), (22, .fn1 92 22)] [(3, .cells [.int .i64]), (5, .cells [.tok 25 6401310720]), (22, .cells [.lst 29])] s fun ⟨a0, _, _, a1, a2, _, _⟩ ⟨⟨a3, _⟩, ⟨a4, _⟩, ⟨a5, _⟩, _⟩ => (a0, a1, a2, a3, a4, a5, a5.length)
 st := fun u17 => mkS 41 [(14, (AV.list 1 u17.1 none)), (3, (AV.ptr 3 0)), (5, (AV.ptr 5 0)), (15, (qI u17.2.1)), (16, (qI u17.2.2.1)), (22, (AV.fn (.func 92) [] [(AV.ptr 22 0)]))] [(3, [(qI u17.2.2.2.1)]), (5, [(AV.list 25 u17.2.2.2.2.1 (some 6401310720))]), (22, [(AV.list 29 u17.2.2.2.2.2.1 none)])] (JT 17).1.toks 0
 out := fun y => (.normal, mkS 41 [(14, (AV.list 1 y.1 none)), (3, (AV.ptr 3 0)), (5, (AV.ptr 5 0)), (15, (qI y.2.1)), (16, (qI y.2.2.1))] [(3, [(qI y.2.2.2.1)]), (5, [(AV.list 25 y.2.2.2.2 (some 6401310720))])] (JT 17).2.toks 0)
 b := fun u17 α kn ke => (if u17.2.2.2.2.2.1.length <= 1000000 then (match u17.2.2.2.2.2.2 with | 0 => (ke (u17.1, u17.2.1, u17.2.2.1, u17.2.2.2.1, u17.2.2.2.2.1)) | m17 + 1 => (match u17.2.2.2.2.2.1[m17]? with | some r17 => (match zrk RK7 r17 with | some e17 => (match zc1 N ((m17 : Int), e17, u17.2.2.2.1, u17.2.2.2.2.1) with | some y5 => (match y5.1 with | true => (kn (u17.1, u17.2.1, u17.2.2.1, y5.2.1, y5.2.2, u17.2.2.2.2.2.1, m17)) | false => (ke (u17.1, u17.2.1, u17.2.2.1, y5.2))) | none => none) | none => none) | none => none)) else none)
abbrev znU (N : Nat) (x : qL × Int × Int × Int × qL × qL × Nat) : Option ((qL × Int × Int × Int × qL)) := (Zd N).L N x
def jF (N : Nat) : LSpec where
 X := qL × Int × Int × Int × qL
 Y := (qL)
 p := fun s => rdS 41 0 [(14, .lst 1), (3, .ptr 3 0), (5, .ptr 5 0), (15, .int .i64), (16, .int .i64)] [(3, .cells [.int .i64]), (5, .cells [.tok 25 6401310720])] s fun ⟨a0, _, _, a1, a2, _⟩ ⟨⟨a3, _⟩, ⟨a4, _⟩, _⟩ => (a0, a1, a2, a3, a4)
 st := fun u9 => mkS 41 [(14, (AV.list 1 u9.1 none)), (3, (AV.ptr 3 0)), (5, (AV.ptr 5 0)), (15, (qI u9.2.1)), (16, (qI u9.2.2.1))] [(3, [(qI u9.2.2.2.1)]), (5, [(AV.list 25 u9.2.2.2.2 (some 6401310720))])] (JT 9).1.toks 0
 out := fun y => (.exit 0, mkS 41 [(5, (AV.ptr 5 0))] [(5, [(AV.list 25 y (some 6401310720))])] (JT 9).2.toks 0)
 b := fun u9 α kn ke => (match (decide (u9.2.2.1 < u9.2.1)) with | true => (if 0 <= u9.2.2.1 then (match u9.1[u9.2.2.1.toNat]? with | some c7 => (match zgc c7 with | some e8 => (match zBm N e8.1 with | some y9 => (match znU N (u9.1, u9.2.1, u9.2.2.1, u9.2.2.2.1, u9.2.2.2.2, y9, y9.length) with | some y10 => (kn (y10.1, y10.2.1, (i64 (y10.2.2.1 + 1)), y10.2.2.2)) | none => none) | none => none) | none => none) | none => none) else none) | false => (ke u9.2.2.2.2))
abbrev zws (N : Nat) (x : qL × Int × Int × Int × qL) : Option ((qL)) := (jF N).L N x
def zd4 (N : Nat) : FSpec where
 X := qL × Int
 Y := qL
 ash := [[some 1], [none]]
 S := ⟨[[some 2000025]], [], [], [], []⟩
 pat := fun a b => zj a fun v1 c2 => Z3 v1 fun c3 => zj c3 fun c4 c5 => Z1 1 c4 fun a0 => zR c5 <| zj c2 fun v6 c7 => jQ .i64 v6 fun a1 => zR c7 <| zR b <| some (a0, a1)
 args := fun x => [(AV.agg [(AV.list 1 x.1 none)]), (AV.v (.int .i64 x.2))]
 ret := fun y => ⟨(AV.list 25 y (some 2560000000)), [], none, [], [2560000000], [], none⟩
 t := fun x α k => (match zcZ N x.1 with | some y1 => (match (!y1) with | true => (k ([] : qL)) | false => (match zws N (x.1, (x.1.length : Int), 0, x.2, ([] : qL)) with | some y11 => (k y11) | none => none)) | none => none)
abbrev zax (N : Nat) (x : qL × Int) : Option (qL) := (zd4 N).d x
def zc0 (N : Nat) : List (Nat × LSpec) := [(9, jF N), (17, Zd N)]
def zgy : Code := Tryz.f30.body.getD .skip
theorem znW (N : Nat) : Par (Zd N).b := by
 intro x α β kn ke kn' ke' r r' h h1 h2
 revert h
 dsimp only [Zd]
 (repeat' (first | (with_reducible refine ze ?_ ?_) | split)) <;> intro h <;> first | exact h1 _ h | exact h2 _ h | cases h
theorem zkD (N : Nat) (u17 : (Zd N).X) (α : Type) (kn : Nat -> AS -> Option α) (ke : Out -> Option α) : zau (zgz N).F JT 17 fBk RK7 22 23 24 [3, 5] u17.2.2.2.2.2.2 ((Zd N).st u17) kn ke = (Zd N).b u17 α (fun x => kn x.2.2.2.2.2.2 ((Zd N).st x)) (fun y => (Zd N).sp y α ke) := by kernel_rfl
theorem zr0 (N : Nat) (u17 : (Zd N).X) : ((Zd N).st u17).at 22 = .fn (.func fBk) [] [.ptr 22 0] := by kernel_rfl
theorem zr1 (N : Nat) (u17 : (Zd N).X) : ((Zd N).st u17).cx 22 = some [.list 29 u17.2.2.2.2.2.1 none] := by kernel_rfl
theorem zeC (N : Nat) : ZE qP JT N (zc0 N) 17 (zc 17 zgy) :=
 zzV JT N (zc0 N) 17 zgy (by kernel_rfl) (by decide) (zgz N) (Zd N) (fun x => x.2.2.2.2.2.2) rfl (fun s x hc h => by dsimp only [Zd] at h; exact zI hc h (fun _ _ => rfl) rfl rfl rfl) 22 (fun u17 => u17.2.2.2.2.2.1) (zr0 N) (zr1 N) (fun s x h => by dsimp only [Zd] at h; obtain ⟨a, b, rfl⟩ := zCO h; rfl) (fun x b h => zqI rfl h) (fun y b h => zqI rfl h) (zkD N) (znW N)
theorem zr2 (N : Nat) : Par (jF N).b := by
 intro x α β kn ke kn' ke' r r' h h1 h2
 revert h
 dsimp only [jF]
 (repeat' (first | (with_reducible refine ze ?_ ?_) | split)) <;> intro h <;> first | exact h1 _ h | exact h2 _ h | cases h
theorem znT (N : Nat) : je (zn qP) (zA0 N) JT N (zc0 N) 9 zgy (jF N) := fun x α kn ke => by kernel_rfl
theorem znV (N : Nat) : ZE qP JT N (zc0 N) 9 (zc 9 zgy) :=
 zC (zd qP) (zi _) zl JT N (zc0 N) 9 zgy (l := [(17, zc 17 zgy)]) (by kernel_rfl) (by kernel_rfl) (al (zeC N) an) (jF N) rfl (fun s x hc h => by dsimp only [jF] at h; exact zI hc h (fun _ _ => rfl) rfl rfl rfl) (fun _ => rfl) (znT N) (zr2 N)
theorem zr3 (N : Nat) : Zc (zd4 N).t := by
 intro x α β k k' r r' h h1
 revert h
 dsimp only [zd4]
 (repeat' (first | (with_reducible refine ze ?_ ?_) | split)) <;> intro h <;> first | exact h1 _ h | cases h
theorem zr4 (N : Nat) : Ze (zn qP) (zA0 N) JT (lam N (zc0 N)) Tryz.f30 (zd4 N) := fun x => by kernel_rfl
theorem zye (N : Nat) (a : List AV) (b : qL) (x : (zd4 N).X) (h : (zd4 N).pat a b = some x) : a = (zd4 N).args x /\ b = (zd4 N).bs x := by
 obtain ⟨v1, c2, rfl, g0⟩ := zb (show zj _ _ = some x from h)
 obtain ⟨c3, rfl, g1⟩ := zO g0; clear g0
 obtain ⟨c4, c5, rfl, g2⟩ := zb g1; clear g1
 obtain ⟨a0, rfl, g3⟩ := zq g2; clear g2
 obtain ⟨rfl, g4⟩ := zg g3; clear g3
 obtain ⟨v6, c7, rfl, g5⟩ := zb g4; clear g4
 obtain ⟨a1, rfl, g6⟩ := zA g5; clear g5
 obtain ⟨rfl, g7⟩ := zg g6; clear g6
 obtain ⟨rfl, g8⟩ := zg g7; clear g7
 clear h
 cases g8
 exact ⟨rfl, rfl⟩
def zAZ (N : Nat) : Ent qP := zx (zd qP) (zi _) zl 30 Tryz.f30 Tryz.func30 rfl JT (lam N (zc0 N)) (zm (l := [(9, zc 9 zgy), (17, zc 17 zgy)]) (al (znV N) (al (zeC N) an)) (by kernel_rfl)) (zd4 N) (fun _ => ⟨rfl, rfl⟩) (zr4 N) (zye N) (zr3 N)
end
end Go.Proofs.YthdgnfcbehcplaaGreatDoor
end
section
namespace Go.Proofs.YthdgnfcbehcplaaGreatDoor
noncomputable section
open Go.RowKit
set_option maxRecDepth 4000
set_option maxHeartbeats 4000000
def zA8 (N : Nat) : FSpec where
 X := qL × Int
 Y := Int × qL × Int
 ash := [[none]]
 bsh := [[some 2000001, none]]
 S := ⟨[[none]], [[some 2000001, none]], [], [6400000000], []⟩
 pat := fun a b => rdA [.ptr 0 0] [.cells [.tok 1 6400000000, .int .i64]] a b fun ⟨_, _⟩ ⟨⟨a0, a1, _⟩, _⟩ => (a0, a1)
 args := fun x => [(AV.ptr 0 0)]
 bs := fun x => [[(AV.list 1 x.1 (some 6400000000)), (AV.v (.int .i64 x.2))]]
 ret := fun y => ⟨(AV.v (.int .i64 y.1)), [[(AV.list 1 y.2.1 (some 6400000000)), (AV.v (.int .i64 y.2.2))]], none, [6400000000], [6400000000], [], none⟩
 t := fun x α k => (match (decide (x.2 >= (x.1.length : Int))) with | true => (k (0, x)) | false => (if 0 <= (i64 ((i64 (x.2 + 1)) - 1)) then (match x.1[(i64 ((i64 (x.2 + 1)) - 1)).toNat]? with | some c1 => (match c1[0]? with | some x2 => (match x2 with | .v (.int q4 n3) => (if q4 = .i64 then (k (n3, x.1, (i64 (x.2 + 1)))) else none) | _ => none) | none => none) | none => none) else none))
abbrev zyk (N : Nat) (x : qL × Int) : Option (Int × qL × Int) := (zA8 N).d x
def zww : Nat -> Keep × Keep := anL []
def zDD (N : Nat) : GamK := gam (P := qP) []
def zkP (N : Nat) : FSpec where
 X := Int × Int
 Y := Int
 ash := [[none], [none]]
 S := ⟨[[none]], [], [], [], []⟩
 pat := fun a b => rdA [.int .i64, .int .i64] [] a b fun ⟨a0, a1, _⟩ _ => (a0, a1)
 args := fun x => [(AV.v (.int .i64 x.1)), (AV.v (.int .i64 x.2))]
 ret := fun y => ⟨(AV.v (.int .i64 y)), [], none, [], [], [], none⟩
 t := fun x α k => (match (decide (x.2 < 1)) with | true => (k 0) | false => (if x.2 = 0 then none else (match (decide ((x.1.tmod x.2) < 0)) with | true => (k (i64 ((x.1.tmod x.2) + x.2))) | false => (k (x.1.tmod x.2)))))
abbrev zog (N : Nat) (x : Int × Int) : Option (Int) := (zkP N).d x
theorem zsp (N : Nat) : Zc (zkP N).t := by
 intro x α β k k' r r' h h1
 revert h
 dsimp only [zkP]
 (repeat' (first | (with_reducible refine ze ?_ ?_) | split)) <;> intro h <;> first | exact h1 _ h | cases h
theorem zsq (N : Nat) : Ze (zn qP) (zDD N) zww (lam N []) Tryz.f42 (zkP N) := fun x => by kernel_rfl
def zA7 (N : Nat) : Ent qP := zx (zd qP) (zi _) zl 42 Tryz.f42 Tryz.func42 rfl zww (lam N []) (zm (l := []) an (by kernel_rfl)) (zkP N) (fun _ => ⟨rfl, rfl⟩) (zsq N) (fun _ _ _ h => zu h (fun _ _ => rfl) (fun _ _ => rfl)) (zsp N)
def zAK (N : Nat) : FSpec where
 X := Int × qL × Int
 Y := Int × qL × Int
 ash := [[none], [none]]
 bsh := [[some 2000001, none]]
 S := ⟨[[none]], [[some 2000001, none]], [], [6400000000], []⟩
 pat := fun a b => rdA [.ptr 0 0, .int .i64] [.cells [.tok 1 6400000000, .int .i64]] a b fun ⟨_, a0, _⟩ ⟨⟨a1, a2, _⟩, _⟩ => (a0, a1, a2)
 args := fun x => [(AV.ptr 0 0), (AV.v (.int .i64 x.1))]
 bs := fun x => [[(AV.list 1 x.2.1 (some 6400000000)), (AV.v (.int .i64 x.2.2))]]
 ret := fun y => ⟨(AV.v (.int .i64 y.1)), [[(AV.list 1 y.2.1 (some 6400000000)), (AV.v (.int .i64 y.2.2))]], none, [6400000000], [6400000000], [], none⟩
 t := fun x α k => (match zyk N x.2 with | some y1 => (match zog N (y1.1, x.1) with | some y2 => (k (y2, y1.2)) | none => none) | none => none)
abbrev jU (N : Nat) (x : Int × qL × Int) : Option (Int × qL × Int) := (zAK N).d x
abbrev RK8 : List Ck := [.str, .str, .str, .str, .int .i64, .int .i64, .int .i64, .int .i64, .int .i64, .tk 9 6401049152, .int .i64, .int .i64, .int .i64, .int .i64, .int .i64, .int .i64, .int .i64, .int .i64, .int .i64, .int .i64, .int .i64, .int .i64, .int .i64, .int .i64, .int .i64]
abbrev RT8 : Type := ByteArray × ByteArray × ByteArray × ByteArray × Int × Int × Int × Int × Int × qL × Int × Int × Int × Int × Int × Int × Int × Int × Int × Int × Int × Int × Int × Int × Int × Unit
def zC2 (e : RT8) : List AV := enc RK8 e
def zwz : Nat -> Keep × Keep := anL []
def zDE (N : Nat) : GamK := gam (P := qP) [zA7 N]
def zoo (N : Nat) : FSpec where
 X := Int
 Y := RT2
 ash := [[none]]
 S := ⟨[[none, none, none, none]], [], [], [], []⟩
 pat := fun a b => rdA [.int .i64] [] a b fun ⟨a0, _⟩ _ => a0
 args := fun x => [(AV.v (.int .i64 x))]
 ret := fun y => ⟨(AV.agg (zB1 y)), [], none, [], [], [], none⟩
 t := fun x α k => (match zog N (x, 6) with | some y1 => (if 0 <= y1 then (match [[(AV.v (.string (⟨#[83, 49]⟩ : ByteArray)))], [(AV.v (.string (⟨#[83, 50]⟩ : ByteArray)))], [(AV.v (.string (⟨#[83, 51]⟩ : ByteArray)))], [(AV.v (.string (⟨#[83, 52]⟩ : ByteArray)))], [(AV.v (.string (⟨#[83, 53]⟩ : ByteArray)))], [(AV.v (.string (⟨#[83, 54]⟩ : ByteArray)))]][y1.toNat]? with | some c2 => (match c2[0]? with | some x3 => (match x3 with | .v (.string s4) => (k ((⟨#[65, 66]⟩ : ByteArray), s4, (⟨#[48, 48]⟩ : ByteArray), (⟨#[66, 72, 90]⟩ : ByteArray), ())) | _ => none) | none => none) | none => none) else none) | none => none)
abbrev zss (N : Nat) (x : Int) : Option (RT2) := (zoo N).d x
theorem zst (N : Nat) : Zc (zoo N).t := by
 intro x α β k k' r r' h h1
 revert h
 dsimp only [zoo]
 (repeat' (first | (with_reducible refine ze ?_ ?_) | split)) <;> intro h <;> first | exact h1 _ h | cases h
theorem zsu (N : Nat) : Ze (zn qP) (zDE N) zwz (lam N []) Tryz.f45 (zoo N) := fun x => by kernel_rfl
def zBc (N : Nat) : Ent qP := zx (zd qP) (zi _) zl 45 Tryz.f45 Tryz.func45 rfl zwz (lam N []) (zm (l := []) an (by kernel_rfl)) (zoo N) (fun _ => ⟨rfl, rfl⟩) (zsu N) (fun _ _ _ h => zu h (fun _ _ => rfl) (fun _ _ => rfl)) (zst N)
def zBd (N : Nat) : FSpec where
 X := Int × qL × Int
 Y := Int × Int × Int × qL × Int
 ash := [[none], [none]]
 bsh := [[some 2000001, none]]
 S := ⟨[[none, none, none]], [[some 2000001, none]], [], [6400000000], []⟩
 pat := fun a b => rdA [.ptr 0 0, .int .i64] [.cells [.tok 1 6400000000, .int .i64]] a b fun ⟨_, a0, _⟩ ⟨⟨a1, a2, _⟩, _⟩ => (a0, a1, a2)
 args := fun x => [(AV.ptr 0 0), (AV.v (.int .i64 x.1))]
 bs := fun x => [[(AV.list 1 x.2.1 (some 6400000000)), (AV.v (.int .i64 x.2.2))]]
 ret := fun y => ⟨(AV.agg [(AV.v (.int .i64 y.1)), (AV.v (.int .i64 y.2.1)), (AV.v (.int .i64 y.2.2.1))]), [[(AV.list 1 y.2.2.2.1 (some 6400000000)), (AV.v (.int .i64 y.2.2.2.2))]], none, [6400000000], [6400000000], [], none⟩
 t := fun x α k => (match jU N ((i64 ((i64 (2 * x.1)) + 1)), x.2) with | some y1 => (match jU N ((i64 ((i64 (2 * x.1)) + 1)), y1.2) with | some y2 => (match jU N ((i64 (x.1 + 1)), y2.2) with | some y3 => (k ((i64 (y1.1 - x.1)), (i64 (y2.1 - x.1)), y3)) | none => none) | none => none) | none => none)
abbrev zyl (N : Nat) (x : Int × qL × Int) : Option (Int × Int × Int × qL × Int) := (zBd N).d x
def zAO (N : Nat) : FSpec where
 X := qL × qL × Int
 Y := Int × qL × Int
 ash := [[none], [some 1]]
 bsh := [[some 2000001, none]]
 S := ⟨[[none]], [[some 2000001, none]], [], [6400000000], []⟩
 pat := fun a b => rdA [.ptr 0 0, .lst 1] [.cells [.tok 1 6400000000, .int .i64]] a b fun ⟨_, a0, _⟩ ⟨⟨a1, a2, _⟩, _⟩ => (a0, a1, a2)
 args := fun x => [(AV.ptr 0 0), (AV.list 1 x.1 none)]
 bs := fun x => [[(AV.list 1 x.2.1 (some 6400000000)), (AV.v (.int .i64 x.2.2))]]
 ret := fun y => ⟨(AV.v (.int .i64 y.1)), [[(AV.list 1 y.2.1 (some 6400000000)), (AV.v (.int .i64 y.2.2))]], none, [6400000000], [6400000000], [], none⟩
 t := fun x α k => (match jU N ((x.1.length : Int), x.2) with | some y1 => (if 0 <= y1.1 then (match x.1[y1.1.toNat]? with | some c2 => (match c2[0]? with | some x3 => (match x3 with | .v (.int q5 n4) => (if q5 = .i64 then (k (n4, y1.2)) else none) | _ => none) | none => none) | none => none) else none) | none => none)
abbrev zrr (N : Nat) (x : qL × qL × Int) : Option (Int × qL × Int) := (zAO N).d x
abbrev zEx : List Ck := [.str, .str, .str, .str, .int .i64, .int .i64, .int .i64, .int .i64, .int .i64, .vs 2020489 9, .int .i64, .int .i64, .int .i64, .int .i64, .int .i64, .int .i64, .int .i64, .int .i64, .int .i64, .int .i64, .int .i64, .int .i64, .int .i64, .int .i64, .int .i64]
abbrev zrh : Type := ByteArray × ByteArray × ByteArray × ByteArray × Int × Int × Int × Int × Int × Nat × Int × Int × Int × Int × Int × Int × Int × Int × Int × Int × Int × Int × Int × Int × Int × Unit
def zuJ (e : zrh) : List AV := enc zEx e
abbrev RK11 : List Ck := [.str, .str, .str, .str, .int .i64, .int .i64, .int .i64, .int .i64, .int .i64, .vs 1 9, .int .i64, .int .i64, .int .i64, .int .i64, .int .i64, .int .i64, .int .i64, .int .i64, .int .i64, .int .i64, .int .i64, .int .i64, .int .i64, .int .i64, .int .i64]
abbrev zyX : Type := ByteArray × ByteArray × ByteArray × ByteArray × Int × Int × Int × Int × Int × Nat × Int × Int × Int × Int × Int × Int × Int × Int × Int × Int × Int × Int × Int × Int × Int × Unit
def zB0 (e : zyX) : List AV := enc RK11 e
def znq : Nat -> Keep × Keep := anL [(6, ⟨[0, 1, 4, 5, 6, 7], [], [0, 4, 5], [], [((0, 0), 1), ((4, 9), 9)], [], [((5, 9), 9)], [], false, none, []⟩, ⟨[0, 4, 5, 6], [], [0, 4, 5], [], [((0, 0), 1), ((4, 9), 9)], [], [((5, 9), 9)], [], false, none, []⟩)]
def jh (N : Nat) : LSpec where
 X := Int × Int × Int × qL × Int × RT8 × zrh × qA
 Y := (Int × qL × Int × RT8 × zrh × qA)
 p := fun s => rdS 98 1 [(0, .ptr 0 0), (1, .int .i64), (4, .ptr 4 0), (5, .ptr 5 0), (6, .int .i64), (7, .int .i64)] [(0, .cells [.tok 1 6400000000, .int .i64]), (4, .row RK8), (5, .row zEx), (2020489, .tt)] s fun ⟨_, a0, _, _, a1, a2, _⟩ ⟨⟨a3, a4, _⟩, a5, a6, a7, _⟩ => (a0, a1, a2, a3, a4, a5, a6, a7)
 st := fun u6 => mkS 98 [(0, (AV.ptr 0 0)), (1, (qI u6.1)), (4, (AV.ptr 4 0)), (5, (AV.ptr 5 0)), (6, (qI u6.2.1)), (7, (qI u6.2.2.1))] [(0, [(AV.list 1 u6.2.2.2.1 (some 6400000000)), (qI u6.2.2.2.2.1)]), (4, (zC2 u6.2.2.2.2.2.1)), (5, (zuJ u6.2.2.2.2.2.2.1)), (2020489, u6.2.2.2.2.2.2.2)] (znq 6).1.toks 1
 out := fun y => (.exit 0, mkS 98 [(0, (AV.ptr 0 0)), (4, (AV.ptr 4 0)), (5, (AV.ptr 5 0)), (6, (qI y.1))] [(0, [(AV.list 1 y.2.1 (some 6400000000)), (qI y.2.2.1)]), (4, (zC2 y.2.2.2.1)), (5, (zuJ y.2.2.2.2.1)), (2020489, y.2.2.2.2.2)] (znq 6).2.toks 1)
 b := fun u6 α kn ke => (match jU N (4, u6.2.2.2.1, u6.2.2.2.2.1) with | some y5 => (match (decide (u6.2.2.1 < (i64 (1 + y5.1)))) with | true => (match zss N u6.2.2.1 with | some y6 => (match jU N (3, y5.2) with | some y7 => (if u6.2.2.2.2.2.2.1.2.2.2.2.2.2.2.2.2.1 * 9 <= u6.2.2.2.2.2.2.2.length /\ (u6.2.2.2.2.2.2.1.2.2.2.2.2.2.2.2.2.1 + [(zy (y6.1, y6.2.1, y6.2.2.1, y6.2.2.2.1, (i64 (u6.2.1 + (i64 (10 * u6.1)))), (i64 (u6.2.1 + (i64 (10 * u6.1)))), (i64 ((i64 (u6.2.1 + (i64 (10 * u6.1)))) + y7.1)), u6.1, 0, ()))].length) * 104 <= zh then (kn (u6.1, u6.2.1, (i64 (u6.2.2.1 + 1)), y7.2.1, y7.2.2, u6.2.2.2.2.2.1, (u6.2.2.2.2.2.2.1.1, u6.2.2.2.2.2.2.1.2.1, u6.2.2.2.2.2.2.1.2.2.1, u6.2.2.2.2.2.2.1.2.2.2.1, u6.2.2.2.2.2.2.1.2.2.2.2.1, u6.2.2.2.2.2.2.1.2.2.2.2.2.1, u6.2.2.2.2.2.2.1.2.2.2.2.2.2.1, u6.2.2.2.2.2.2.1.2.2.2.2.2.2.2.1, u6.2.2.2.2.2.2.1.2.2.2.2.2.2.2.2.1, (u6.2.2.2.2.2.2.1.2.2.2.2.2.2.2.2.2.1 + [(zy (y6.1, y6.2.1, y6.2.2.1, y6.2.2.2.1, (i64 (u6.2.1 + (i64 (10 * u6.1)))), (i64 (u6.2.1 + (i64 (10 * u6.1)))), (i64 ((i64 (u6.2.1 + (i64 (10 * u6.1)))) + y7.1)), u6.1, 0, ()))].length), u6.2.2.2.2.2.2.1.2.2.2.2.2.2.2.2.2.2), ((u6.2.2.2.2.2.2.2.take (u6.2.2.2.2.2.2.1.2.2.2.2.2.2.2.2.2.1 * 9) ++ [(zy (y6.1, y6.2.1, y6.2.2.1, y6.2.2.2.1, (i64 (u6.2.1 + (i64 (10 * u6.1)))), (i64 (u6.2.1 + (i64 (10 * u6.1)))), (i64 ((i64 (u6.2.1 + (i64 (10 * u6.1)))) + y7.1)), u6.1, 0, ()))].flatten).map dat0))) else none) | none => none) | none => none) | false => (ke (u6.2.1, y5.2.1, y5.2.2, u6.2.2.2.2.2.1, u6.2.2.2.2.2.2.1, (u6.2.2.2.2.2.2.2.map dat0)))) | none => none)
abbrev zns (N : Nat) (x : Int × Int × Int × qL × Int × RT8 × zrh × qA) : Option ((Int × qL × Int × RT8 × zrh × qA)) := (jh N).L N x
def zwc (N : Nat) : FSpec where
 X := Int × qL × Int
 Y := zyX × qL × Int × qA
 ash := [[none], [none]]
 bsh := [[some 2000001, none]]
 S := ⟨[[none, none, none, none, none, none, none, none, none, some 9, none, none, none, none, none, none, none, none, none, none, none, none, none, none, none]], [[some 2000001, none]], [], [6400000000], []⟩
 bm := true
 pat := fun a b => rdA [.ptr 0 0, .int .i64] [.cells [.tok 1 6400000000, .int .i64]] a b fun ⟨_, a0, _⟩ ⟨⟨a1, a2, _⟩, _⟩ => (a0, a1, a2)
 args := fun x => [(AV.ptr 0 0), (AV.v (.int .i64 x.1))]
 bs := fun x => [[(AV.list 1 x.2.1 (some 6400000000)), (AV.v (.int .i64 x.2.2))]]
 ret := fun y => ⟨(AV.agg (zB0 y.1)), [[(AV.list 1 y.2.1 (some 6400000000)), (AV.v (.int .i64 y.2.2.1))]], some y.2.2.2, [6400000000], [6400000000], [], none⟩
 t := fun x α k => (match jU N (300, x.2) with | some y1 => (match zns N (x.1, (i64 (1000 + y1.1)), 0, y1.2.1, y1.2.2, ((⟨#[]⟩ : ByteArray), (⟨#[]⟩ : ByteArray), (⟨#[]⟩ : ByteArray), (⟨#[]⟩ : ByteArray), 0, 0, 0, 0, 0, ([] : qL), 0, 0, 0, 0, 0, 0, 0, 0, 0, 0, 0, 0, 0, 0, 0, ()), ((⟨#[]⟩ : ByteArray), (⟨#[]⟩ : ByteArray), (⟨#[]⟩ : ByteArray), (⟨#[]⟩ : ByteArray), 0, 0, 0, 0, 0, 0, 0, 0, 0, 0, 0, 0, 0, 0, 0, 0, 0, 0, 0, 0, 0, ()), ([] : List AV)) with | some y8 => (if 0 <= (0 : Int) /\ (0 : Int) < (y8.2.2.2.2.1.2.2.2.2.2.2.2.2.2.1 : Int) then (match Jv (y8.2.2.2.2.2.drop ((0 + (0 : Int).toNat) * 9)) with | some e9 => (match zyl N (20, y8.2.1, y8.2.2.1) with | some y10 => (match jU N (40, y10.2.2.2) with | some y11 => (match zrr N ([[(AV.v (.int .i64 0))], [(AV.v (.int .i64 0))], [(AV.v (.int .i64 5))], [(AV.v (.int .i64 500))]], y11.2) with | some y12 => (match jU N (3, y12.2) with | some y13 => (match (decide (y13.1 > 0)) with | true => (match jU N (400, y13.2) with | some y14 => (match jU N (60, y14.2) with | some y15 => (k ((e9.1, e9.2.1, e9.2.2.1, e9.2.2.2.1, e9.2.2.2.2.1, e9.2.2.2.2.2.1, e9.2.2.2.2.2.2.1, e9.2.2.2.2.2.2.2.1, e9.2.2.2.2.2.2.2.2.1, y8.2.2.2.2.1.2.2.2.2.2.2.2.2.2.1, y10.1, y10.2.1, y10.2.2.1, (i64 (y8.1 - y11.1)), y12.1, 0, y10.1, y10.2.1, y10.2.2.1, y10.1, y10.2.1, y10.2.2.1, y14.1, (i64 (y14.1 + y15.1)), y13.1, ()), y15.2.1, y15.2.2, (y8.2.2.2.2.2.map dat0))) | none => none) | none => none) | false => (k ((e9.1, e9.2.1, e9.2.2.1, e9.2.2.2.1, e9.2.2.2.2.1, e9.2.2.2.2.2.1, e9.2.2.2.2.2.2.1, e9.2.2.2.2.2.2.2.1, e9.2.2.2.2.2.2.2.2.1, y8.2.2.2.2.1.2.2.2.2.2.2.2.2.2.1, y10.1, y10.2.1, y10.2.2.1, (i64 (y8.1 - y11.1)), y12.1, 0, y10.1, y10.2.1, y10.2.2.1, y10.1, y10.2.1, y10.2.2.1, y8.2.2.2.2.1.2.2.2.2.2.2.2.2.2.2.2.2.2.2.2.2.2.2.2.2.2.2.1, y8.2.2.2.2.1.2.2.2.2.2.2.2.2.2.2.2.2.2.2.2.2.2.2.2.2.2.2.2.1, y13.1, ()), y13.2.1, y13.2.2, (y8.2.2.2.2.2.map dat0)))) | none => none) | none => none) | none => none) | none => none) | none => none) else none) | none => none) | none => none)
abbrev znr (N : Nat) (x : Int × qL × Int) : Option (zyX × qL × Int × qA) := (zwc N).d x
abbrev zEy : List Ck := [.str, .str, .str, .str, .int .i64, .int .i64, .int .i64, .int .i64, .int .i64, .vs 19 9, .int .i64, .int .i64, .int .i64, .int .i64, .int .i64, .int .i64, .int .i64, .int .i64, .int .i64, .int .i64, .int .i64, .int .i64, .int .i64, .int .i64, .int .i64]
abbrev zuI : Type := ByteArray × ByteArray × ByteArray × ByteArray × Int × Int × Int × Int × Int × Nat × Int × Int × Int × Int × Int × Int × Int × Int × Int × Int × Int × Int × Int × Int × Int × Unit
def zuK (e : zuI) : List AV := enc zEy e
def zi1 : Nat -> Keep × Keep := anF [(5, ⟨[0, 1, 6], [], [0], [], [((0, 0), 1)], [(5, 25)], [], [], false, none, []⟩, ⟨[], [], [0], [], [((0, 0), 1)], [(5, 25)], [], [], false, none, []⟩), (18, ⟨[0, 1, 5, 6, 7, 23, 24], [], [0, 7, 19, 1000005], [], [((0, 0), 1)], [], [], [19, 1000005], false, none, []⟩, ⟨[0, 1, 5, 6, 7], [], [0, 7, 19, 1000005], [], [((0, 0), 1)], [], [], [19, 1000005], false, none, []⟩)] [(100015, ([], [((7, 9), 9)])), (100016, ([5], []))]
def Jp (N : Nat) : LSpec where
 X := Int × Nat × Int × Int × Int × qL × Int × zuI × qA × qA
 Y := (Int × Nat × Int × qL × Int × zuI × qA × qA)
 p := fun s => rdS 86 1 [(0, .ptr 0 0), (1, .int .i64), (5, .vs0 1000005 25), (6, .int .i64), (7, .ptr 7 0), (23, .int .i64), (24, .int .i64)] [(0, .cells [.tok 1 6400000000, .int .i64]), (7, .row zEy), (19, .tt), (1000005, .tt)] s fun ⟨_, a0, a1, a2, _, a3, a4, _⟩ ⟨⟨a5, a6, _⟩, a7, a8, a9, _⟩ => (a0, a1, a2, a3, a4, a5, a6, a7, a8, a9)
 st := fun u18 => mkS 86 [(0, (AV.ptr 0 0)), (1, (qI u18.1)), (5, (AV.vs 1000005 0 u18.2.1 25)), (6, (qI u18.2.2.1)), (7, (AV.ptr 7 0)), (23, (qI u18.2.2.2.1)), (24, (qI u18.2.2.2.2.1))] [(0, [(AV.list 1 u18.2.2.2.2.2.1 (some 6400000000)), (qI u18.2.2.2.2.2.2.1)]), (7, (zuK u18.2.2.2.2.2.2.2.1)), (19, u18.2.2.2.2.2.2.2.2.1), (1000005, u18.2.2.2.2.2.2.2.2.2)] (zi1 18).1.toks 1
 out := fun y => (.exit 2, mkS 86 [(0, (AV.ptr 0 0)), (1, (qI y.1)), (5, (AV.vs 1000005 0 y.2.1 25)), (6, (qI y.2.2.1)), (7, (AV.ptr 7 0))] [(0, [(AV.list 1 y.2.2.2.1 (some 6400000000)), (qI y.2.2.2.2.1)]), (7, (zuK y.2.2.2.2.2.1)), (19, y.2.2.2.2.2.2.1), (1000005, y.2.2.2.2.2.2.2)] (zi1 18).2.toks 1)
 b := fun u18 α kn ke => (match (decide (u18.2.2.2.2.1 < u18.2.2.2.1)) with | true => (if 0 <= u18.2.2.2.2.1 /\ u18.2.2.2.2.1 < (u18.2.2.2.2.2.2.2.1.2.2.2.2.2.2.2.2.2.1 : Int) then (if (((0 + u18.2.2.2.2.1.toNat) * 9) + 4) + 1 <= u18.2.2.2.2.2.2.2.2.1.length then (if (((0 + u18.2.2.2.2.1.toNat) * 9) + 5) + 1 <= (splice u18.2.2.2.2.2.2.2.2.1 (((0 + u18.2.2.2.2.1.toNat) * 9) + 4) [(AV.v (.int .i64 (i64 ((i64 (1000 + (i64 (400 * u18.2.2.1)))) + u18.2.2.2.2.1))))]).length then (if (((0 + u18.2.2.2.2.1.toNat) * 9) + 6) + 1 <= (splice (splice u18.2.2.2.2.2.2.2.2.1 (((0 + u18.2.2.2.2.1.toNat) * 9) + 4) [(AV.v (.int .i64 (i64 ((i64 (1000 + (i64 (400 * u18.2.2.1)))) + u18.2.2.2.2.1))))]) (((0 + u18.2.2.2.2.1.toNat) * 9) + 5) [(AV.v (.int .i64 (i64 ((i64 (1000 + (i64 (400 * u18.2.2.1)))) + u18.2.2.2.2.1))))]).length then (if (((0 + u18.2.2.2.2.1.toNat) * 9) + 7) + 1 <= (splice (splice (splice u18.2.2.2.2.2.2.2.2.1 (((0 + u18.2.2.2.2.1.toNat) * 9) + 4) [(AV.v (.int .i64 (i64 ((i64 (1000 + (i64 (400 * u18.2.2.1)))) + u18.2.2.2.2.1))))]) (((0 + u18.2.2.2.2.1.toNat) * 9) + 5) [(AV.v (.int .i64 (i64 ((i64 (1000 + (i64 (400 * u18.2.2.1)))) + u18.2.2.2.2.1))))]) (((0 + u18.2.2.2.2.1.toNat) * 9) + 6) [(AV.v (.int .i64 (i64 ((i64 ((i64 (1000 + (i64 (400 * u18.2.2.1)))) + u18.2.2.2.2.1)) + 2))))]).length then (kn (u18.1, u18.2.1, u18.2.2.1, u18.2.2.2.1, (i64 (u18.2.2.2.2.1 + 1)), u18.2.2.2.2.2.1, u18.2.2.2.2.2.2.1, u18.2.2.2.2.2.2.2.1, ((splice (splice (splice (splice u18.2.2.2.2.2.2.2.2.1 (((0 + u18.2.2.2.2.1.toNat) * 9) + 4) [(AV.v (.int .i64 (i64 ((i64 (1000 + (i64 (400 * u18.2.2.1)))) + u18.2.2.2.2.1))))]) (((0 + u18.2.2.2.2.1.toNat) * 9) + 5) [(AV.v (.int .i64 (i64 ((i64 (1000 + (i64 (400 * u18.2.2.1)))) + u18.2.2.2.2.1))))]) (((0 + u18.2.2.2.2.1.toNat) * 9) + 6) [(AV.v (.int .i64 (i64 ((i64 ((i64 (1000 + (i64 (400 * u18.2.2.1)))) + u18.2.2.2.2.1)) + 2))))]) (((0 + u18.2.2.2.2.1.toNat) * 9) + 7) [(AV.v (.int .i64 7))]).map dat0), (u18.2.2.2.2.2.2.2.2.2.map dat0))) else none) else none) else none) else none) else none) | false => (ke (u18.1, u18.2.1, u18.2.2.1, u18.2.2.2.2.2.1, u18.2.2.2.2.2.2.1, u18.2.2.2.2.2.2.2.1, (u18.2.2.2.2.2.2.2.2.1.map dat0), (u18.2.2.2.2.2.2.2.2.2.map dat0))))
abbrev zya (N : Nat) (x : Int × Nat × Int × Int × Int × qL × Int × zuI × qA × qA) : Option ((Int × Nat × Int × qL × Int × zuI × qA × qA)) := (Jp N).L N x
def Jc (N : Nat) : LSpec where
 X := Nat × Int × Int × qL × Int × qA
 Y := (Nat × qL × Int × qA)
 p := fun s => rdS 86 1 [(5, .vs0 1000005 25), (0, .ptr 0 0), (1, .int .i64), (6, .int .i64)] [(0, .cells [.tok 1 6400000000, .int .i64]), (1000005, .tt)] s fun ⟨a0, _, a1, a2, _⟩ ⟨⟨a3, a4, _⟩, a5, _⟩ => (a0, a1, a2, a3, a4, a5)
 st := fun u5 => mkS 86 [(5, (AV.vs 1000005 0 u5.1 25)), (0, (AV.ptr 0 0)), (1, (qI u5.2.1)), (6, (qI u5.2.2.1))] [(0, [(AV.list 1 u5.2.2.2.1 (some 6400000000)), (qI u5.2.2.2.2.1)]), (1000005, u5.2.2.2.2.2)] (zi1 5).1.toks 1
 out := fun y => (.exit 0, mkS 86 [(5, (AV.vs 1000005 0 y.1 25))] [(0, [(AV.list 1 y.2.1 (some 6400000000)), (qI y.2.2.1)]), (1000005, y.2.2.2)] (zi1 5).2.toks 1)
 b := fun u5 α kn ke => (match (decide (u5.2.2.1 < u5.2.1)) with | true => (match jU N (3, u5.2.2.2.1, u5.2.2.2.2.1) with | some y6 => (match (y6.1 == 0) with | true => (kn (u5.1, u5.2.1, (i64 (u5.2.2.1 + 1)), y6.2.1, y6.2.2, (u5.2.2.2.2.2.map dat0))) | false => (match znr N (1, y6.2) with | some y7 => (match zya N (u5.2.1, u5.1, u5.2.2.1, ((y7.1.2.2.2.2.2.2.2.2.2.1 : Nat) : Int), 0, y7.2.1, y7.2.2.1, y7.1, ((y7.2.2.2.map dat0).map dat0), (u5.2.2.2.2.2.map dat0)) with | some y8 => (match jU N (2, y8.2.2.2.1, y8.2.2.2.2.1) with | some y9 => (if 0 <= (if (i64 (((y8.2.2.2.2.2.1.2.2.2.2.2.2.2.2.2.1 : Nat) : Int) - 1)) < y9.1 then (i64 (((y8.2.2.2.2.2.1.2.2.2.2.2.2.2.2.2.1 : Nat) : Int) - 1)) else y9.1) /\ (if (i64 (((y8.2.2.2.2.2.1.2.2.2.2.2.2.2.2.2.1 : Nat) : Int) - 1)) < y9.1 then (i64 (((y8.2.2.2.2.2.1.2.2.2.2.2.2.2.2.2.1 : Nat) : Int) - 1)) else y9.1) <= (y8.2.2.2.2.2.1.2.2.2.2.2.2.2.2.2.1 : Int) then (if 0 <= (0 : Int) /\ (0 : Int) < (((y8.2.2.2.2.2.1.2.2.2.2.2.2.2.2.2.1 - (if (i64 (((y8.2.2.2.2.2.1.2.2.2.2.2.2.2.2.2.1 : Nat) : Int) - 1)) < y9.1 then (i64 (((y8.2.2.2.2.2.1.2.2.2.2.2.2.2.2.2.1 : Nat) : Int) - 1)) else y9.1).toNat) : Nat) : Int) then (match Jv (y8.2.2.2.2.2.2.1.drop (((0 + (if (i64 (((y8.2.2.2.2.2.1.2.2.2.2.2.2.2.2.2.1 : Nat) : Int) - 1)) < y9.1 then (i64 (((y8.2.2.2.2.2.1.2.2.2.2.2.2.2.2.2.1 : Nat) : Int) - 1)) else y9.1).toNat) + (0 : Int).toNat) * 9)) with | some e10 => (if (y8.2.2.2.2.2.1.2.2.2.2.2.2.2.2.2.1 - (if (i64 (((y8.2.2.2.2.2.1.2.2.2.2.2.2.2.2.2.1 : Nat) : Int) - 1)) < y9.1 then (i64 (((y8.2.2.2.2.2.1.2.2.2.2.2.2.2.2.2.1 : Nat) : Int) - 1)) else y9.1).toNat) * 9 <= (zaj (0 + (if (i64 (((y8.2.2.2.2.2.1.2.2.2.2.2.2.2.2.2.1 : Nat) : Int) - 1)) < y9.1 then (i64 (((y8.2.2.2.2.2.1.2.2.2.2.2.2.2.2.2.1 : Nat) : Int) - 1)) else y9.1).toNat) 9 y8.2.2.2.2.2.2.1).length then (if y8.2.1 * 25 <= y8.2.2.2.2.2.2.2.length /\ (y8.2.1 + [(zB (e10.1, e10.2.1, e10.2.2.1, e10.2.2.2.1, e10.2.2.2.2.1, e10.2.2.2.2.2.1, e10.2.2.2.2.2.2.1, e10.2.2.2.2.2.2.2.1, e10.2.2.2.2.2.2.2.2.1, (zL ((zaj (0 + (if (i64 (((y8.2.2.2.2.2.1.2.2.2.2.2.2.2.2.2.1 : Nat) : Int) - 1)) < y9.1 then (i64 (((y8.2.2.2.2.2.1.2.2.2.2.2.2.2.2.2.1 : Nat) : Int) - 1)) else y9.1).toNat) 9 y8.2.2.2.2.2.2.1).take ((y8.2.2.2.2.2.1.2.2.2.2.2.2.2.2.2.1 - (if (i64 (((y8.2.2.2.2.2.1.2.2.2.2.2.2.2.2.2.1 : Nat) : Int) - 1)) < y9.1 then (i64 (((y8.2.2.2.2.2.1.2.2.2.2.2.2.2.2.2.1 : Nat) : Int) - 1)) else y9.1).toNat) * 9)) 9 (y8.2.2.2.2.2.1.2.2.2.2.2.2.2.2.2.1 - (if (i64 (((y8.2.2.2.2.2.1.2.2.2.2.2.2.2.2.2.1 : Nat) : Int) - 1)) < y9.1 then (i64 (((y8.2.2.2.2.2.1.2.2.2.2.2.2.2.2.2.1 : Nat) : Int) - 1)) else y9.1).toNat)), y8.2.2.2.2.2.1.2.2.2.2.2.2.2.2.2.2))].length) * 248 <= zh then (kn ((y8.2.1 + [(zB (e10.1, e10.2.1, e10.2.2.1, e10.2.2.2.1, e10.2.2.2.2.1, e10.2.2.2.2.2.1, e10.2.2.2.2.2.2.1, e10.2.2.2.2.2.2.2.1, e10.2.2.2.2.2.2.2.2.1, (zL ((zaj (0 + (if (i64 (((y8.2.2.2.2.2.1.2.2.2.2.2.2.2.2.2.1 : Nat) : Int) - 1)) < y9.1 then (i64 (((y8.2.2.2.2.2.1.2.2.2.2.2.2.2.2.2.1 : Nat) : Int) - 1)) else y9.1).toNat) 9 y8.2.2.2.2.2.2.1).take ((y8.2.2.2.2.2.1.2.2.2.2.2.2.2.2.2.1 - (if (i64 (((y8.2.2.2.2.2.1.2.2.2.2.2.2.2.2.2.1 : Nat) : Int) - 1)) < y9.1 then (i64 (((y8.2.2.2.2.2.1.2.2.2.2.2.2.2.2.2.1 : Nat) : Int) - 1)) else y9.1).toNat) * 9)) 9 (y8.2.2.2.2.2.1.2.2.2.2.2.2.2.2.2.1 - (if (i64 (((y8.2.2.2.2.2.1.2.2.2.2.2.2.2.2.2.1 : Nat) : Int) - 1)) < y9.1 then (i64 (((y8.2.2.2.2.2.1.2.2.2.2.2.2.2.2.2.1 : Nat) : Int) - 1)) else y9.1).toNat)), y8.2.2.2.2.2.1.2.2.2.2.2.2.2.2.2.2))].length), y8.1, (i64 (y8.2.2.1 + 1)), y9.2.1, y9.2.2, ((y8.2.2.2.2.2.2.2.take (y8.2.1 * 25) ++ [(zB (e10.1, e10.2.1, e10.2.2.1, e10.2.2.2.1, e10.2.2.2.2.1, e10.2.2.2.2.2.1, e10.2.2.2.2.2.2.1, e10.2.2.2.2.2.2.2.1, e10.2.2.2.2.2.2.2.2.1, (zL ((zaj (0 + (if (i64 (((y8.2.2.2.2.2.1.2.2.2.2.2.2.2.2.2.1 : Nat) : Int) - 1)) < y9.1 then (i64 (((y8.2.2.2.2.2.1.2.2.2.2.2.2.2.2.2.1 : Nat) : Int) - 1)) else y9.1).toNat) 9 y8.2.2.2.2.2.2.1).take ((y8.2.2.2.2.2.1.2.2.2.2.2.2.2.2.2.1 - (if (i64 (((y8.2.2.2.2.2.1.2.2.2.2.2.2.2.2.2.1 : Nat) : Int) - 1)) < y9.1 then (i64 (((y8.2.2.2.2.2.1.2.2.2.2.2.2.2.2.2.1 : Nat) : Int) - 1)) else y9.1).toNat) * 9)) 9 (y8.2.2.2.2.2.1.2.2.2.2.2.2.2.2.2.1 - (if (i64 (((y8.2.2.2.2.2.1.2.2.2.2.2.2.2.2.2.1 : Nat) : Int) - 1)) < y9.1 then (i64 (((y8.2.2.2.2.2.1.2.2.2.2.2.2.2.2.2.1 : Nat) : Int) - 1)) else y9.1).toNat)), y8.2.2.2.2.2.1.2.2.2.2.2.2.2.2.2.2))].flatten).map dat0))) else none) else none) | none => none) else none) else none) | none => none) | none => none) | none => none)) | none => none) | false => (ke (u5.1, u5.2.2.2.1, u5.2.2.2.2.1, (u5.2.2.2.2.2.map dat0))))
abbrev zwo (N : Nat) (x : Nat × Int × Int × qL × Int × qA) : Option ((Nat × qL × Int × qA)) := (Jc N).L N x
def zAX (N : Nat) : FSpec where
 X := Int × qL × Int
 Y := qL × qL × Int
 ash := [[none], [none]]
 bsh := [[some 2000001, none]]
 S := ⟨[[some 2000025]], [[some 2000001, none]], [], [6400000000], []⟩
 pat := fun a b => rdA [.ptr 0 0, .int .i64] [.cells [.tok 1 6400000000, .int .i64]] a b fun ⟨_, a0, _⟩ ⟨⟨a1, a2, _⟩, _⟩ => (a0, a1, a2)
 args := fun x => [(AV.ptr 0 0), (AV.v (.int .i64 x.1))]
 bs := fun x => [[(AV.list 1 x.2.1 (some 6400000000)), (AV.v (.int .i64 x.2.2))]]
 ret := fun y => ⟨(AV.list 25 y.1 (some 2560000000)), [[(AV.list 1 y.2.1 (some 6400000000)), (AV.v (.int .i64 y.2.2))]], none, [6400000000], [6400000000, 2560000000], [], none⟩
 t := fun x α k => (match zwo N (0, x.1, 0, x.2.1, x.2.2, ([] : List AV)) with | some y11 => (if y11.1 * 25 <= y11.2.2.2.length then (k ((zL (y11.2.2.2.take (y11.1 * 25)) 25 y11.1), y11.2.1, y11.2.2.1)) else none) | none => none)
abbrev zgv (N : Nat) (x : Int × qL × Int) : Option (qL × qL × Int) := (zAX N).d x
def zxP (N : Nat) : FSpec where
 X := qL × qL × Int
 Y := ByteArray × qL × Int
 ash := [[none], [some 1]]
 bsh := [[some 2000001, none]]
 S := ⟨[[none]], [[some 2000001, none]], [], [6400000000], []⟩
 pat := fun a b => rdA [.ptr 0 0, .lst 1] [.cells [.tok 1 6400000000, .int .i64]] a b fun ⟨_, a0, _⟩ ⟨⟨a1, a2, _⟩, _⟩ => (a0, a1, a2)
 args := fun x => [(AV.ptr 0 0), (AV.list 1 x.1 none)]
 bs := fun x => [[(AV.list 1 x.2.1 (some 6400000000)), (AV.v (.int .i64 x.2.2))]]
 ret := fun y => ⟨(AV.v (.string y.1)), [[(AV.list 1 y.2.1 (some 6400000000)), (AV.v (.int .i64 y.2.2))]], none, [6400000000], [6400000000], [], none⟩
 t := fun x α k => (match jU N ((x.1.length : Int), x.2) with | some y1 => (if 0 <= y1.1 then (match x.1[y1.1.toNat]? with | some c2 => (match c2[0]? with | some x3 => (match x3 with | .v (.string s4) => (k (s4, y1.2)) | _ => none) | none => none) | none => none) else none) | none => none)
abbrev zhJ (N : Nat) (x : qL × qL × Int) : Option (ByteArray × qL × Int) := (zxP N).d x
def zwf : Nat -> Keep × Keep := anL []
def zDj (N : Nat) : GamK := gam (P := qP) [zsB N]
def zff (N : Nat) : FSpec where
 X := qL × Int × ByteArray × RT0 × Int
 Y := qL × Int
 ash := [[some 1], [none], [none], [none, none, none, none, none, none, none, none, none, some 9, none, none, none, none, none, none, none, none, none, none, none, none, none, none, none], [none]]
 S := ⟨[[some 1], [none]], [], [], [], []⟩
 pat := fun a b => zj a fun v1 c2 => Z3 v1 fun c3 => zj c3 fun c4 c5 => Z1 1 c4 fun a0 => zR c5 <| zj c2 fun v6 c7 => jQ .i64 v6 fun a1 => zj c7 fun v8 c9 => zmh v8 fun a2 => zj c9 fun v10 c11 => zxE RK0 v10 fun a3 => zj c11 fun v12 c13 => jQ .i64 v12 fun a4 => zR c13 <| zR b <| some (a0, a1, a2, a3, a4)
 args := fun x => [(AV.agg [(AV.list 1 x.1 none)]), (AV.v (.int .i64 x.2.1)), (AV.v (.string x.2.2.1)), (AV.agg (zB x.2.2.2.1)), (AV.v (.int .i64 x.2.2.2.2))]
 ret := fun y => ⟨(AV.tup [(AV.agg [(AV.list 1 y.1 none)]), (AV.v (.int .i64 y.2))]), [], none, [], [], [], none⟩
 t := fun x α k => (match zd9 N (x.1, x.2.1, (3, x.2.2.2.2, x.2.2.1, 0, x.2.2.2.1.1, x.2.2.2.1.2.1, x.2.2.2.1.2.2.1, x.2.2.2.1.2.2.2.1, x.2.2.2.1.2.2.2.2.1, x.2.2.2.1.2.2.2.2.2.1, x.2.2.2.1.2.2.2.2.2.2.1, x.2.2.2.1.2.2.2.2.2.2.2.1, x.2.2.2.1.2.2.2.2.2.2.2.2.1, x.2.2.2.1.2.2.2.2.2.2.2.2.2.1, x.2.2.2.1.2.2.2.2.2.2.2.2.2.2.1, x.2.2.2.1.2.2.2.2.2.2.2.2.2.2.2.1, x.2.2.2.1.2.2.2.2.2.2.2.2.2.2.2.2.1, x.2.2.2.1.2.2.2.2.2.2.2.2.2.2.2.2.2.1, x.2.2.2.1.2.2.2.2.2.2.2.2.2.2.2.2.2.2.1, x.2.2.2.1.2.2.2.2.2.2.2.2.2.2.2.2.2.2.2.1, x.2.2.2.1.2.2.2.2.2.2.2.2.2.2.2.2.2.2.2.2.1, x.2.2.2.1.2.2.2.2.2.2.2.2.2.2.2.2.2.2.2.2.2.1, x.2.2.2.1.2.2.2.2.2.2.2.2.2.2.2.2.2.2.2.2.2.2.1, x.2.2.2.1.2.2.2.2.2.2.2.2.2.2.2.2.2.2.2.2.2.2.2.1, x.2.2.2.1.2.2.2.2.2.2.2.2.2.2.2.2.2.2.2.2.2.2.2.2.1, x.2.2.2.1.2.2.2.2.2.2.2.2.2.2.2.2.2.2.2.2.2.2.2.2.2.1, x.2.2.2.1.2.2.2.2.2.2.2.2.2.2.2.2.2.2.2.2.2.2.2.2.2.2.1, x.2.2.2.1.2.2.2.2.2.2.2.2.2.2.2.2.2.2.2.2.2.2.2.2.2.2.2.1, x.2.2.2.1.2.2.2.2.2.2.2.2.2.2.2.2.2.2.2.2.2.2.2.2.2.2.2.2.1, ())) with | some y1 => (k y1) | none => none)
abbrev zxS (N : Nat) (x : qL × Int × ByteArray × RT0 × Int) : Option (qL × Int) := (zff N).d x
theorem zrv (N : Nat) : Zc (zff N).t := by
 intro x α β k k' r r' h h1
 revert h
 dsimp only [zff]
 (repeat' (first | (with_reducible refine ze ?_ ?_) | split)) <;> intro h <;> first | exact h1 _ h | cases h
theorem zrw (N : Nat) : Ze (zn qP) (zDj N) zwf (lam N []) Tryz.f17 (zff N) := fun x => by kernel_rfl
theorem zxT (N : Nat) (a : List AV) (b : qL) (x : (zff N).X) (h : (zff N).pat a b = some x) : a = (zff N).args x /\ b = (zff N).bs x := by
 obtain ⟨v1, c2, rfl, g0⟩ := zb (show zj _ _ = some x from h)
 obtain ⟨c3, rfl, g1⟩ := zO g0; clear g0
 obtain ⟨c4, c5, rfl, g2⟩ := zb g1; clear g1
 obtain ⟨a0, rfl, g3⟩ := zq g2; clear g2
 obtain ⟨rfl, g4⟩ := zg g3; clear g3
 obtain ⟨v6, c7, rfl, g5⟩ := zb g4; clear g4
 obtain ⟨a1, rfl, g6⟩ := zA g5; clear g5
 obtain ⟨v8, c9, rfl, g7⟩ := zb g6; clear g6
 obtain ⟨a2, rfl, g8⟩ := JS g7; clear g7
 obtain ⟨v10, c11, rfl, g9⟩ := zb g8; clear g8
 obtain ⟨a3, rfl, g10⟩ := zdN g9; clear g9
 obtain ⟨v12, c13, rfl, g11⟩ := zb g10; clear g10
 obtain ⟨a4, rfl, g12⟩ := zA g11; clear g11
 obtain ⟨rfl, g13⟩ := zg g12; clear g12
 obtain ⟨rfl, g14⟩ := zg g13; clear g13
 clear h
 cases g14
 exact ⟨rfl, rfl⟩
def zDi (N : Nat) : Ent qP := zx (zd qP) (zi _) zl 17 Tryz.f17 Tryz.func17 rfl zwf (lam N []) (zm (l := []) an (by kernel_rfl)) (zff N) (fun _ => ⟨rfl, rfl⟩) (zrw N) (zxT N) (zrv N)
def zwh : Nat -> Keep × Keep := anL []
def zDn (N : Nat) : GamK := gam (P := qP) [zsB N]
def zfh (N : Nat) : FSpec where
 X := qL × Int × ByteArray × Int
 Y := qL × Int
 ash := [[some 1], [none], [none], [none]]
 S := ⟨[[some 1], [none]], [], [], [], []⟩
 pat := fun a b => zj a fun v1 c2 => Z3 v1 fun c3 => zj c3 fun c4 c5 => Z1 1 c4 fun a0 => zR c5 <| zj c2 fun v6 c7 => jQ .i64 v6 fun a1 => zj c7 fun v8 c9 => zmh v8 fun a2 => zj c9 fun v10 c11 => jQ .i64 v10 fun a3 => zR c11 <| zR b <| some (a0, a1, a2, a3)
 args := fun x => [(AV.agg [(AV.list 1 x.1 none)]), (AV.v (.int .i64 x.2.1)), (AV.v (.string x.2.2.1)), (AV.v (.int .i64 x.2.2.2))]
 ret := fun y => ⟨(AV.tup [(AV.agg [(AV.list 1 y.1 none)]), (AV.v (.int .i64 y.2))]), [], none, [], [], [], none⟩
 t := fun x α k => (match zd9 N (x.1, x.2.1, (4, x.2.2.2, x.2.2.1, 0, (⟨#[]⟩ : ByteArray), (⟨#[]⟩ : ByteArray), (⟨#[]⟩ : ByteArray), (⟨#[]⟩ : ByteArray), 0, 0, 0, 0, 0, ([] : qL), 0, 0, 0, 0, 0, 0, 0, 0, 0, 0, 0, 0, 0, 0, 0, ())) with | some y1 => (k y1) | none => none)
abbrev zxW (N : Nat) (x : qL × Int × ByteArray × Int) : Option (qL × Int) := (zfh N).d x
theorem zrz (N : Nat) : Zc (zfh N).t := by
 intro x α β k k' r r' h h1
 revert h
 dsimp only [zfh]
 (repeat' (first | (with_reducible refine ze ?_ ?_) | split)) <;> intro h <;> first | exact h1 _ h | cases h
theorem zrA (N : Nat) : Ze (zn qP) (zDn N) zwh (lam N []) Tryz.f19 (zfh N) := fun x => by kernel_rfl
theorem zxX (N : Nat) (a : List AV) (b : qL) (x : (zfh N).X) (h : (zfh N).pat a b = some x) : a = (zfh N).args x /\ b = (zfh N).bs x := by
 obtain ⟨v1, c2, rfl, g0⟩ := zb (show zj _ _ = some x from h)
 obtain ⟨c3, rfl, g1⟩ := zO g0; clear g0
 obtain ⟨c4, c5, rfl, g2⟩ := zb g1; clear g1
 obtain ⟨a0, rfl, g3⟩ := zq g2; clear g2
 obtain ⟨rfl, g4⟩ := zg g3; clear g3
 obtain ⟨v6, c7, rfl, g5⟩ := zb g4; clear g4
 obtain ⟨a1, rfl, g6⟩ := zA g5; clear g5
 obtain ⟨v8, c9, rfl, g7⟩ := zb g6; clear g6
 obtain ⟨a2, rfl, g8⟩ := JS g7; clear g7
 obtain ⟨v10, c11, rfl, g9⟩ := zb g8; clear g8
 obtain ⟨a3, rfl, g10⟩ := zA g9; clear g9
 obtain ⟨rfl, g11⟩ := zg g10; clear g10
 obtain ⟨rfl, g12⟩ := zg g11; clear g11
 clear h
 cases g12
 exact ⟨rfl, rfl⟩
def zDm (N : Nat) : Ent qP := zx (zd qP) (zi _) zl 19 Tryz.f19 Tryz.func19 rfl zwh (lam N []) (zm (l := []) an (by kernel_rfl)) (zfh N) (fun _ => ⟨rfl, rfl⟩) (zrA N) (zxX N) (zrz N)
def zwj : Nat -> Keep × Keep := anL []
def zDr (N : Nat) : GamK := gam (P := qP) [zsB N]
def zfj (N : Nat) : FSpec where
 X := qL × Int × Int × ByteArray × Int
 Y := qL × Int
 ash := [[some 1], [none], [none], [none], [none]]
 S := ⟨[[some 1], [none]], [], [], [], []⟩
 pat := fun a b => zj a fun v1 c2 => Z3 v1 fun c3 => zj c3 fun c4 c5 => Z1 1 c4 fun a0 => zR c5 <| zj c2 fun v6 c7 => jQ .i64 v6 fun a1 => zj c7 fun v8 c9 => jQ .i64 v8 fun a2 => zj c9 fun v10 c11 => zmh v10 fun a3 => zj c11 fun v12 c13 => jQ .i64 v12 fun a4 => zR c13 <| zR b <| some (a0, a1, a2, a3, a4)
 args := fun x => [(AV.agg [(AV.list 1 x.1 none)]), (AV.v (.int .i64 x.2.1)), (AV.v (.int .i64 x.2.2.1)), (AV.v (.string x.2.2.2.1)), (AV.v (.int .i64 x.2.2.2.2))]
 ret := fun y => ⟨(AV.tup [(AV.agg [(AV.list 1 y.1 none)]), (AV.v (.int .i64 y.2))]), [], none, [], [], [], none⟩
 t := fun x α k => (match zd9 N (x.1, x.2.1, (5, x.2.2.2.2, x.2.2.2.1, x.2.2.1, (⟨#[]⟩ : ByteArray), (⟨#[]⟩ : ByteArray), (⟨#[]⟩ : ByteArray), (⟨#[]⟩ : ByteArray), 0, 0, 0, 0, 0, ([] : qL), 0, 0, 0, 0, 0, 0, 0, 0, 0, 0, 0, 0, 0, 0, 0, ())) with | some y1 => (k y1) | none => none)
abbrev zx0 (N : Nat) (x : qL × Int × Int × ByteArray × Int) : Option (qL × Int) := (zfj N).d x
theorem zrD (N : Nat) : Zc (zfj N).t := by
 intro x α β k k' r r' h h1
 revert h
 dsimp only [zfj]
 (repeat' (first | (with_reducible refine ze ?_ ?_) | split)) <;> intro h <;> first | exact h1 _ h | cases h
theorem zrE (N : Nat) : Ze (zn qP) (zDr N) zwj (lam N []) Tryz.f21 (zfj N) := fun x => by kernel_rfl
theorem zx1 (N : Nat) (a : List AV) (b : qL) (x : (zfj N).X) (h : (zfj N).pat a b = some x) : a = (zfj N).args x /\ b = (zfj N).bs x := by
 obtain ⟨v1, c2, rfl, g0⟩ := zb (show zj _ _ = some x from h)
 obtain ⟨c3, rfl, g1⟩ := zO g0; clear g0
 obtain ⟨c4, c5, rfl, g2⟩ := zb g1; clear g1
 obtain ⟨a0, rfl, g3⟩ := zq g2; clear g2
 obtain ⟨rfl, g4⟩ := zg g3; clear g3
 obtain ⟨v6, c7, rfl, g5⟩ := zb g4; clear g4
 obtain ⟨a1, rfl, g6⟩ := zA g5; clear g5
 obtain ⟨v8, c9, rfl, g7⟩ := zb g6; clear g6
 obtain ⟨a2, rfl, g8⟩ := zA g7; clear g7
 obtain ⟨v10, c11, rfl, g9⟩ := zb g8; clear g8
 obtain ⟨a3, rfl, g10⟩ := JS g9; clear g9
 obtain ⟨v12, c13, rfl, g11⟩ := zb g10; clear g10
 obtain ⟨a4, rfl, g12⟩ := zA g11; clear g11
 obtain ⟨rfl, g13⟩ := zg g12; clear g12
 obtain ⟨rfl, g14⟩ := zg g13; clear g13
 clear h
 cases g14
 exact ⟨rfl, rfl⟩
def zDq (N : Nat) : Ent qP := zx (zd qP) (zi _) zl 21 Tryz.f21 Tryz.func21 rfl zwj (lam N []) (zm (l := []) an (by kernel_rfl)) (zfj N) (fun _ => ⟨rfl, rfl⟩) (zrE N) (zx1 N) (zrD N)
def zwl : Nat -> Keep × Keep := anL []
def zDv (N : Nat) : GamK := gam (P := qP) [zsB N]
def zfl (N : Nat) : FSpec where
 X := qL × Int × ByteArray × Int
 Y := qL × Int
 ash := [[some 1], [none], [none], [none]]
 S := ⟨[[some 1], [none]], [], [], [], []⟩
 pat := fun a b => zj a fun v1 c2 => Z3 v1 fun c3 => zj c3 fun c4 c5 => Z1 1 c4 fun a0 => zR c5 <| zj c2 fun v6 c7 => jQ .i64 v6 fun a1 => zj c7 fun v8 c9 => zmh v8 fun a2 => zj c9 fun v10 c11 => jQ .i64 v10 fun a3 => zR c11 <| zR b <| some (a0, a1, a2, a3)
 args := fun x => [(AV.agg [(AV.list 1 x.1 none)]), (AV.v (.int .i64 x.2.1)), (AV.v (.string x.2.2.1)), (AV.v (.int .i64 x.2.2.2))]
 ret := fun y => ⟨(AV.tup [(AV.agg [(AV.list 1 y.1 none)]), (AV.v (.int .i64 y.2))]), [], none, [], [], [], none⟩
 t := fun x α k => (match zd9 N (x.1, x.2.1, (6, x.2.2.2, x.2.2.1, 0, (⟨#[]⟩ : ByteArray), (⟨#[]⟩ : ByteArray), (⟨#[]⟩ : ByteArray), (⟨#[]⟩ : ByteArray), 0, 0, 0, 0, 0, ([] : qL), 0, 0, 0, 0, 0, 0, 0, 0, 0, 0, 0, 0, 0, 0, 0, ())) with | some y1 => (k y1) | none => none)
abbrev zx4 (N : Nat) (x : qL × Int × ByteArray × Int) : Option (qL × Int) := (zfl N).d x
theorem zrH (N : Nat) : Zc (zfl N).t := by
 intro x α β k k' r r' h h1
 revert h
 dsimp only [zfl]
 (repeat' (first | (with_reducible refine ze ?_ ?_) | split)) <;> intro h <;> first | exact h1 _ h | cases h
theorem zrI (N : Nat) : Ze (zn qP) (zDv N) zwl (lam N []) Tryz.f23 (zfl N) := fun x => by kernel_rfl
theorem zx5 (N : Nat) (a : List AV) (b : qL) (x : (zfl N).X) (h : (zfl N).pat a b = some x) : a = (zfl N).args x /\ b = (zfl N).bs x := by
 obtain ⟨v1, c2, rfl, g0⟩ := zb (show zj _ _ = some x from h)
 obtain ⟨c3, rfl, g1⟩ := zO g0; clear g0
 obtain ⟨c4, c5, rfl, g2⟩ := zb g1; clear g1
 obtain ⟨a0, rfl, g3⟩ := zq g2; clear g2
 obtain ⟨rfl, g4⟩ := zg g3; clear g3
 obtain ⟨v6, c7, rfl, g5⟩ := zb g4; clear g4
 obtain ⟨a1, rfl, g6⟩ := zA g5; clear g5
 obtain ⟨v8, c9, rfl, g7⟩ := zb g6; clear g6
 obtain ⟨a2, rfl, g8⟩ := JS g7; clear g7
 obtain ⟨v10, c11, rfl, g9⟩ := zb g8; clear g8
 obtain ⟨a3, rfl, g10⟩ := zA g9; clear g9
 obtain ⟨rfl, g11⟩ := zg g10; clear g10
 obtain ⟨rfl, g12⟩ := zg g11; clear g11
 clear h
 cases g12
 exact ⟨rfl, rfl⟩
def zDu (N : Nat) : Ent qP := zx (zd qP) (zi _) zl 23 Tryz.f23 Tryz.func23 rfl zwl (lam N []) (zm (l := []) an (by kernel_rfl)) (zfl N) (fun _ => ⟨rfl, rfl⟩) (zrI N) (zx5 N) (zrH N)
def zv3 : Nat -> Keep × Keep := anL [(6, ⟨[0, 1, 4, 6, 7, 8], [], [0, 4, 6], [], [((0, 0), 1), ((4, 0), 1)], [], [], [], false, none, [((6, 0), 1)]⟩, ⟨[4, 6, 7], [], [0, 4, 6], [], [((0, 0), 1), ((4, 0), 1)], [], [], [], false, none, [((6, 0), 1)]⟩)]
def jT (N : Nat) : LSpec where
 X := Int × Int × Int × qL × Int × qL × qL
 Y := (Int × qL × Int × qL × qL)
 p := fun s => rdS 111 1 [(0, .ptr 0 0), (1, .int .i64), (4, .ptr 4 0), (6, .ptr 6 0), (7, .int .i64), (8, .int .i64)] [(0, .cells [.tok 1 6400000000, .int .i64]), (4, .cells [.tok 1 6401048576]), (6, .cells [.lst 1])] s fun ⟨_, a0, _, _, a1, a2, _⟩ ⟨⟨a3, a4, _⟩, ⟨a5, _⟩, ⟨a6, _⟩, _⟩ => (a0, a1, a2, a3, a4, a5, a6)
 st := fun u6 => mkS 111 [(0, (AV.ptr 0 0)), (1, (qI u6.1)), (4, (AV.ptr 4 0)), (6, (AV.ptr 6 0)), (7, (qI u6.2.1)), (8, (qI u6.2.2.1))] [(0, [(AV.list 1 u6.2.2.2.1 (some 6400000000)), (qI u6.2.2.2.2.1)]), (4, [(AV.list 1 u6.2.2.2.2.2.1 (some 6401048576))]), (6, [(AV.list 1 u6.2.2.2.2.2.2 none)])] (zv3 6).1.toks 1
 out := fun y => (.exit 0, mkS 111 [(4, (AV.ptr 4 0)), (6, (AV.ptr 6 0)), (7, (qI y.1))] [(0, [(AV.list 1 y.2.1 (some 6400000000)), (qI y.2.2.1)]), (4, [(AV.list 1 y.2.2.2.1 (some 6401048576))]), (6, [(AV.list 1 y.2.2.2.2 none)])] (zv3 6).2.toks 1)
 b := fun u6 α kn ke => (match (decide (u6.2.2.1 < u6.1)) with | true => (match jU N (50, u6.2.2.2.1, u6.2.2.2.2.1) with | some y19 => (match jU N ((if (u6.2.2.2.2.2.2.length : Int) > 1 then (u6.2.2.2.2.2.2.length : Int) else 1), y19.2) with | some y20 => (match jU N (8, y20.2) with | some y21 => (match (y21.1 == 0) with | true => (match zgv N (4, y21.2) with | some y22 => (match (decide ((y22.1.length : Int) > 0)) with | true => (match zhJ N ([[(AV.v (.string (⟨#[97, 110, 110]⟩ : ByteArray)))], [(AV.v (.string (⟨#[98, 111, 98]⟩ : ByteArray)))]], y22.2) with | some y23 => (match jU N ((y22.1.length : Int), y23.2) with | some y24 => (if 0 <= y24.1 then (match y22.1[y24.1.toNat]? with | some c25 => (match zgT c25 with | some e26 => (match zxS N (u6.2.2.2.2.2.2, y20.1, y23.1, e26, (i64 (u6.2.1 + y19.1))) with | some y27 => (match (y27.2 == 0) with | true => (kn (u6.1, (i64 (u6.2.1 + y19.1)), (i64 (u6.2.2.1 + 1)), y24.2.1, y24.2.2, u6.2.2.2.2.2.1, y27.1)) | false => (kn (u6.1, (i64 (u6.2.1 + y19.1)), (i64 (u6.2.2.1 + 1)), y24.2.1, y24.2.2, u6.2.2.2.2.2))) | none => none) | none => none) | none => none) else none) | none => none) | none => none) | false => (match (0 == 0) with | true => (kn (u6.1, (i64 (u6.2.1 + y19.1)), (i64 (u6.2.2.1 + 1)), y22.2.1, y22.2.2, u6.2.2.2.2.2)) | false => (kn (u6.1, (i64 (u6.2.1 + y19.1)), (i64 (u6.2.2.1 + 1)), y22.2.1, y22.2.2, u6.2.2.2.2.2)))) | none => none) | false => (match (y21.1 == 1) with | true => (match zhJ N ([[(AV.v (.string (⟨#[97, 110, 110]⟩ : ByteArray)))], [(AV.v (.string (⟨#[98, 111, 98]⟩ : ByteArray)))]], y21.2) with | some y28 => (match zxW N (u6.2.2.2.2.2.2, y20.1, y28.1, (i64 (u6.2.1 + y19.1))) with | some y29 => (match (y29.2 == 0) with | true => (kn (u6.1, (i64 (u6.2.1 + y19.1)), (i64 (u6.2.2.1 + 1)), y28.2.1, y28.2.2, u6.2.2.2.2.2.1, y29.1)) | false => (kn (u6.1, (i64 (u6.2.1 + y19.1)), (i64 (u6.2.2.1 + 1)), y28.2.1, y28.2.2, u6.2.2.2.2.2))) | none => none) | none => none) | false => (match (y21.1 == 2) with | true => (match jU N ((if (u6.2.2.2.2.2.2.length : Int) > 1 then (u6.2.2.2.2.2.2.length : Int) else 1), y21.2) with | some y30 => (match zhJ N ([[(AV.v (.string (⟨#[97, 110, 110]⟩ : ByteArray)))], [(AV.v (.string (⟨#[98, 111, 98]⟩ : ByteArray)))]], y30.2) with | some y31 => (match zx0 N (u6.2.2.2.2.2.2, y20.1, y30.1, y31.1, (i64 (u6.2.1 + y19.1))) with | some y32 => (match (y32.2 == 0) with | true => (kn (u6.1, (i64 (u6.2.1 + y19.1)), (i64 (u6.2.2.1 + 1)), y31.2.1, y31.2.2, u6.2.2.2.2.2.1, y32.1)) | false => (kn (u6.1, (i64 (u6.2.1 + y19.1)), (i64 (u6.2.2.1 + 1)), y31.2.1, y31.2.2, u6.2.2.2.2.2))) | none => none) | none => none) | none => none) | false => (match (y21.1 == 3) with | true => (match zhJ N ([[(AV.v (.string (⟨#[97, 110, 110]⟩ : ByteArray)))], [(AV.v (.string (⟨#[98, 111, 98]⟩ : ByteArray)))]], y21.2) with | some y33 => (match zx4 N (u6.2.2.2.2.2.2, y20.1, y33.1, (i64 (u6.2.1 + y19.1))) with | some y34 => (match (y34.2 == 0) with | true => (kn (u6.1, (i64 (u6.2.1 + y19.1)), (i64 (u6.2.2.1 + 1)), y33.2.1, y33.2.2, u6.2.2.2.2.2.1, y34.1)) | false => (kn (u6.1, (i64 (u6.2.1 + y19.1)), (i64 (u6.2.2.1 + 1)), y33.2.1, y33.2.2, u6.2.2.2.2.2))) | none => none) | none => none) | false => (match zgv N (4, y21.2) with | some y35 => (match zse N (u6.2.2.2.2.2.2, y35.1, (i64 (u6.2.1 + y19.1))) with | some y36 => (match (y36.2.2 == 0) with | true => (kn (u6.1, (i64 (u6.2.1 + y19.1)), (i64 (u6.2.2.1 + 1)), y35.2.1, y35.2.2, u6.2.2.2.2.2.1, y36.1)) | false => (kn (u6.1, (i64 (u6.2.1 + y19.1)), (i64 (u6.2.2.1 + 1)), y35.2.1, y35.2.2, u6.2.2.2.2.2))) | none => none) | none => none))))) | none => none) | none => none) | none => none) | false => (ke (u6.2.1, u6.2.2.2)))
abbrev zv4 (N : Nat) (x : Int × Int × Int × qL × Int × qL × qL) : Option ((Int × qL × Int × qL × qL)) := (jT N).L N x
def zAv (N : Nat) : FSpec where
 X := Int × qL × Int
 Y := qL × Int × qL × Int
 ash := [[none], [none]]
 bsh := [[some 2000001, none]]
 S := ⟨[[some 1], [none]], [[some 2000001, none]], [], [6400000000], []⟩
 pat := fun a b => rdA [.ptr 0 0, .int .i64] [.cells [.tok 1 6400000000, .int .i64]] a b fun ⟨_, a0, _⟩ ⟨⟨a1, a2, _⟩, _⟩ => (a0, a1, a2)
 args := fun x => [(AV.ptr 0 0), (AV.v (.int .i64 x.1))]
 bs := fun x => [[(AV.list 1 x.2.1 (some 6400000000)), (AV.v (.int .i64 x.2.2))]]
 ret := fun y => ⟨(AV.tup [(AV.agg [(AV.list 1 y.1 none)]), (AV.v (.int .i64 y.2.1))]), [[(AV.list 1 y.2.2.1 (some 6400000000)), (AV.v (.int .i64 y.2.2.2))]], none, [6400000000], [6400000000], [], none⟩
 t := fun x α k => (match zv4 N (x.1, 100, 0, x.2.1, x.2.2, ([] : qL), ([] : qL)) with | some y37 => (k (y37.2.2.2.2, y37.1, y37.2.1, y37.2.2.1)) | none => none)
abbrev zxN (N : Nat) (x : Int × qL × Int) : Option (qL × Int × qL × Int) := (zAv N).d x
def zwn : Nat -> Keep × Keep := anL []
def zDx (N : Nat) : GamK := gam (P := qP) [zBc N]
def znA (N : Nat) : FSpec where
 X := Unit
 Y := RT0
 ash := []
 S := ⟨[[none, none, none, none, none, none, none, none, none, some 9, none, none, none, none, none, none, none, none, none, none, none, none, none, none, none]], [], [], [], []⟩
 pat := fun a b => rdA [] [] a b fun _ _ => ()
 args := fun x => []
 ret := fun y => ⟨(AV.agg (zB y)), [], none, [], [], [], none⟩
 t := fun x α k => (match zss N 0 with | some y1 => (k (y1.1, y1.2.1, y1.2.2.1, y1.2.2.2.1, 1000, 0, 0, 0, 0, [(zy (y1.1, y1.2.1, y1.2.2.1, y1.2.2.2.1, 1000, 0, 0, 0, 0, ()))], 0, 0, 0, 0, 0, 0, 0, 0, 0, 0, 0, 0, 0, 0, 0, ())) | none => none)
abbrev zrM (N : Nat) (x : Unit) : Option (RT0) := (znA N).d x
theorem zrN (N : Nat) : Zc (znA N).t := by
 intro x α β k k' r r' h h1
 revert h
 dsimp only [znA]
 (repeat' (first | (with_reducible refine ze ?_ ?_) | split)) <;> intro h <;> first | exact h1 _ h | cases h
theorem zrO (N : Nat) : Ze (zn qP) (zDx N) zwn (lam N []) Tryz.f25 (znA N) := fun x => by kernel_rfl
def zAV (N : Nat) : Ent qP := zx (zd qP) (zi _) zl 25 Tryz.f25 Tryz.func25 rfl zwn (lam N []) (zm (l := []) an (by kernel_rfl)) (znA N) (fun _ => ⟨rfl, rfl⟩) (zrO N) (fun _ _ _ h => zu h (fun _ _ => rfl) (fun _ _ => rfl)) (zrN N)
def zwe : Nat -> Keep × Keep := anL []
def zDh (N : Nat) : GamK := gam (P := qP) [zsv N]
def zfe (N : Nat) : FSpec where
 X := qL × Int × ByteArray × RT0 × Int
 Y := qL × Int
 ash := [[some 1], [none], [none], [none, none, none, none, none, none, none, none, none, some 9, none, none, none, none, none, none, none, none, none, none, none, none, none, none, none], [none]]
 S := ⟨[[some 1], [none]], [], [], [], []⟩
 pat := fun a b => zj a fun v1 c2 => Z3 v1 fun c3 => zj c3 fun c4 c5 => Z1 1 c4 fun a0 => zR c5 <| zj c2 fun v6 c7 => jQ .i64 v6 fun a1 => zj c7 fun v8 c9 => zmh v8 fun a2 => zj c9 fun v10 c11 => zxE RK0 v10 fun a3 => zj c11 fun v12 c13 => jQ .i64 v12 fun a4 => zR c13 <| zR b <| some (a0, a1, a2, a3, a4)
 args := fun x => [(AV.agg [(AV.list 1 x.1 none)]), (AV.v (.int .i64 x.2.1)), (AV.v (.string x.2.2.1)), (AV.agg (zB x.2.2.2.1)), (AV.v (.int .i64 x.2.2.2.2))]
 ret := fun y => ⟨(AV.tup [(AV.agg [(AV.list 1 y.1 none)]), (AV.v (.int .i64 y.2))]), [], none, [], [], [], none⟩
 t := fun x α k => (match Jy N (x.1, x.2.1, (3, x.2.2.2.2, x.2.2.1, 0, x.2.2.2.1.1, x.2.2.2.1.2.1, x.2.2.2.1.2.2.1, x.2.2.2.1.2.2.2.1, x.2.2.2.1.2.2.2.2.1, x.2.2.2.1.2.2.2.2.2.1, x.2.2.2.1.2.2.2.2.2.2.1, x.2.2.2.1.2.2.2.2.2.2.2.1, x.2.2.2.1.2.2.2.2.2.2.2.2.1, x.2.2.2.1.2.2.2.2.2.2.2.2.2.1, x.2.2.2.1.2.2.2.2.2.2.2.2.2.2.1, x.2.2.2.1.2.2.2.2.2.2.2.2.2.2.2.1, x.2.2.2.1.2.2.2.2.2.2.2.2.2.2.2.2.1, x.2.2.2.1.2.2.2.2.2.2.2.2.2.2.2.2.2.1, x.2.2.2.1.2.2.2.2.2.2.2.2.2.2.2.2.2.2.1, x.2.2.2.1.2.2.2.2.2.2.2.2.2.2.2.2.2.2.2.1, x.2.2.2.1.2.2.2.2.2.2.2.2.2.2.2.2.2.2.2.2.1, x.2.2.2.1.2.2.2.2.2.2.2.2.2.2.2.2.2.2.2.2.2.1, x.2.2.2.1.2.2.2.2.2.2.2.2.2.2.2.2.2.2.2.2.2.2.1, x.2.2.2.1.2.2.2.2.2.2.2.2.2.2.2.2.2.2.2.2.2.2.2.1, x.2.2.2.1.2.2.2.2.2.2.2.2.2.2.2.2.2.2.2.2.2.2.2.2.1, x.2.2.2.1.2.2.2.2.2.2.2.2.2.2.2.2.2.2.2.2.2.2.2.2.2.1, x.2.2.2.1.2.2.2.2.2.2.2.2.2.2.2.2.2.2.2.2.2.2.2.2.2.2.1, x.2.2.2.1.2.2.2.2.2.2.2.2.2.2.2.2.2.2.2.2.2.2.2.2.2.2.2.1, x.2.2.2.1.2.2.2.2.2.2.2.2.2.2.2.2.2.2.2.2.2.2.2.2.2.2.2.2.1, ())) with | some y1 => (k y1) | none => none)
abbrev zrs (N : Nat) (x : qL × Int × ByteArray × RT0 × Int) : Option (qL × Int) := (zfe N).d x
theorem zrt (N : Nat) : Zc (zfe N).t := by
 intro x α β k k' r r' h h1
 revert h
 dsimp only [zfe]
 (repeat' (first | (with_reducible refine ze ?_ ?_) | split)) <;> intro h <;> first | exact h1 _ h | cases h
theorem zru (N : Nat) : Ze (zn qP) (zDh N) zwe (lam N []) Tryz.f16 (zfe N) := fun x => by kernel_rfl
theorem zxR (N : Nat) (a : List AV) (b : qL) (x : (zfe N).X) (h : (zfe N).pat a b = some x) : a = (zfe N).args x /\ b = (zfe N).bs x := by
 obtain ⟨v1, c2, rfl, g0⟩ := zb (show zj _ _ = some x from h)
 obtain ⟨c3, rfl, g1⟩ := zO g0; clear g0
 obtain ⟨c4, c5, rfl, g2⟩ := zb g1; clear g1
 obtain ⟨a0, rfl, g3⟩ := zq g2; clear g2
 obtain ⟨rfl, g4⟩ := zg g3; clear g3
 obtain ⟨v6, c7, rfl, g5⟩ := zb g4; clear g4
 obtain ⟨a1, rfl, g6⟩ := zA g5; clear g5
 obtain ⟨v8, c9, rfl, g7⟩ := zb g6; clear g6
 obtain ⟨a2, rfl, g8⟩ := JS g7; clear g7
 obtain ⟨v10, c11, rfl, g9⟩ := zb g8; clear g8
 obtain ⟨a3, rfl, g10⟩ := zdN g9; clear g9
 obtain ⟨v12, c13, rfl, g11⟩ := zb g10; clear g10
 obtain ⟨a4, rfl, g12⟩ := zA g11; clear g11
 obtain ⟨rfl, g13⟩ := zg g12; clear g12
 obtain ⟨rfl, g14⟩ := zg g13; clear g13
 clear h
 cases g14
 exact ⟨rfl, rfl⟩
def zAU (N : Nat) : Ent qP := zx (zd qP) (zi _) zl 16 Tryz.f16 Tryz.func16 rfl zwe (lam N []) (zm (l := []) an (by kernel_rfl)) (zfe N) (fun _ => ⟨rfl, rfl⟩) (zru N) (zxR N) (zrt N)
def zbP : Nat -> Keep × Keep := anL [(8, ⟨[12, 13], [], [], [(0, 1), (1, 1)], [], [], [], [], false, none, []⟩, qK [4] [] [])]
def zA5 (N : Nat) : GamK := gam (P := qP) []
def zc2 (N : Nat) : LSpec where
 X := qL × qL × Int × Int
 Y := (Bool) ⊕ (Unit)
 p := fun s => rdS 26 0 [(0, .lst 1), (1, .lst 1), (12, .int .i64), (13, .int .i64)] [] s fun ⟨a0, a1, a2, a3, _⟩ _ => (a0, a1, a2, a3)
 st := fun u8 => mkS 26 [(0, (AV.list 1 u8.1 none)), (1, (AV.list 1 u8.2.1 none)), (12, (qI u8.2.2.1)), (13, (qI u8.2.2.2))] [] (zbP 8).1.toks 0
 out := fun y => match y with
  | .inl y => (.ret, mkS 26 [(4, (AV.v (.bool y)))] [] (zbP 8).2.toks 0)
  | .inr y => (.exit 0, mkS 26 [] [] (zbP 8).2.toks 0)
 b := fun u8 α kn ke => (match (decide (u8.2.2.2 < u8.2.2.1)) with | true => (if 0 <= u8.2.2.2 then (match u8.1[u8.2.2.2.toNat]? with | some c1 => (match c1[0]? with | some x2 => (match x2 with | .v (.int q4 n3) => (if q4 = .i64 then (if 0 <= u8.2.2.2 then (match u8.2.1[u8.2.2.2.toNat]? with | some c5 => (match c5[0]? with | some x6 => (match x6 with | .v (.int q8 n7) => (if q8 = .i64 then (match (n3 != n7) with | true => (ke (.inl false)) | false => (kn (u8.1, u8.2.1, u8.2.2.1, (i64 (u8.2.2.2 + 1))))) else none) | _ => none) | none => none) | none => none) else none) else none) | _ => none) | none => none) | none => none) else none) | false => (ke (.inr ())))
abbrev zA4 (N : Nat) (x : qL × qL × Int × Int) : Option ((Bool) ⊕ (Unit)) := (zc2 N).L N x
def zn2 (N : Nat) : FSpec where
 X := qL × qL
 Y := Bool
 ash := [[some 1], [some 1]]
 S := ⟨[[none]], [], [], [], []⟩
 pat := fun a b => rdA [.lst 1, .lst 1] [] a b fun ⟨a0, a1, _⟩ _ => (a0, a1)
 args := fun x => [(AV.list 1 x.1 none), (AV.list 1 x.2 none)]
 ret := fun y => ⟨(AV.v (.bool y)), [], none, [], [], [], none⟩
 t := fun x α k => (match ((x.1.length : Int) != (x.2.length : Int)) with | true => (k false) | false => (match zA4 N (x.1, x.2, (x.1.length : Int), 0) with | some y9 => (match y9 with | .inl z10 => (k z10) | .inr z11 => (k true)) | none => none))
abbrev zA3 (N : Nat) (x : qL × qL) : Option (Bool) := (zn2 N).d x
def zgD (N : Nat) : List (Nat × LSpec) := [(8, zc2 N)]
def zsa : Code := Tryz.f35.body.getD .skip
theorem zsb (N : Nat) : Par (zc2 N).b := by
 intro x α β kn ke kn' ke' r r' h h1 h2
 revert h
 dsimp only [zc2]
 (repeat' (first | (with_reducible refine ze ?_ ?_) | split)) <;> intro h <;> first | exact h1 _ h | exact h2 _ h | cases h
theorem zn0 (N : Nat) : je (zn qP) (zA5 N) zbP N (zgD N) 8 zsa (zc2 N) := fun x α kn ke => by kernel_rfl
theorem zn1 (N : Nat) : ZE qP zbP N (zgD N) 8 (zc 8 zsa) :=
 zC (zd qP) (zi _) zl zbP N (zgD N) 8 zsa (l := []) (by kernel_rfl) (by kernel_rfl) an (zc2 N) rfl (fun s x hc h => by dsimp only [zc2] at h; exact zI hc h (fun _ _ => rfl) rfl rfl rfl) (fun _ => rfl) (zn0 N) (zsb N)
theorem zsc (N : Nat) : Zc (zn2 N).t := by
 intro x α β k k' r r' h h1
 revert h
 dsimp only [zn2]
 (repeat' (first | (with_reducible refine ze ?_ ?_) | split)) <;> intro h <;> first | exact h1 _ h | cases h
theorem zsd (N : Nat) : Ze (zn qP) (zA5 N) zbP (lam N (zgD N)) Tryz.f35 (zn2 N) := fun x => by kernel_rfl
def zDz (N : Nat) : Ent qP := zx (zd qP) (zi _) zl 35 Tryz.f35 Tryz.func35 rfl zbP (lam N (zgD N)) (zm (l := [(8, zc 8 zsa)]) (al (zn1 N) an) (by kernel_rfl)) (zn2 N) (fun _ => ⟨rfl, rfl⟩) (zsd N) (fun _ _ _ h => zu h (fun _ _ => rfl) (fun _ _ => rfl)) (zsc N)
def zBO : Nat -> Keep × Keep := anL []
def F8_g (N : Nat) : GamK := gam (P := qP) [zAV N, zAW N, zAU N, zDz N, zAZ N]
def zBP (N : Nat) : FSpec where
 X := Unit
 Y := Bool
 ash := []
 S := ⟨[[none]], [], [], [], []⟩
 pat := fun a b => rdA [] [] a b fun _ _ => ()
 args := fun x => []
 ret := fun y => ⟨(AV.v (.bool y)), [], none, [], [], [], none⟩
 t := fun x α k => (match zrM N () with | some y1 => (match zku N (([] : qL), [(zB y1)], 5) with | some y2 => (match zku N (y2.1, ([] : qL), 6) with | some y3 => (match zrM N () with | some y4 => (match zrs N (y2.1, 0, (⟨#[97, 110, 110]⟩ : ByteArray), y4, 6) with | some y5 => (match zku N (y5.1, ([] : qL), 7) with | some y6 => (match (y2.2.2 == 0) with | true => (match zA3 N (y2.2.1, [[(AV.v (.int .i64 0))]]) with | some y7 => (match y7 with | true => (match (y3.2.2 == 0) with | true => (match zA3 N (y3.2.1, [[(AV.v (.int .i64 0))]]) with | some y8 => (match y8 with | true => (match zax N (y3.1, 6) with | some y9 => (match ((y9.length : Int) == 0) with | true => (match zax N (y3.1, 5) with | some y10 => (match ((y10.length : Int) == 1) with | true => (match (y5.2 == 0) with | true => (match (y6.2.2 == 0) with | true => (match ((y6.2.1.length : Int) == 0) with | true => (match zax N (y6.1, 7) with | some y11 => (k ((y11.length : Int) == 1)) | none => none) | false => (k false)) | false => (k false)) | false => (k false)) | false => (k false)) | none => none) | false => (k false)) | none => none) | false => (k false)) | none => none) | false => (k false)) | false => (k false)) | none => none) | false => (k false)) | none => none) | none => none) | none => none) | none => none) | none => none) | none => none)
abbrev zpQ (N : Nat) (x : Unit) : Option (Bool) := (zBP N).d x
theorem zyR (N : Nat) : Zc (zBP N).t := by
 intro x α β k k' r r' h h1
 revert h
 dsimp only [zBP]
 (repeat' (first | (with_reducible refine ze ?_ ?_) | split)) <;> intro h <;> first | exact h1 _ h | cases h
theorem zyS (N : Nat) : Ze (zn qP) (F8_g N) zBO (lam N []) Tryz.f8 (zBP N) := fun x => by kernel_rfl
def F8_e (N : Nat) : Ent qP := zx (zd qP) (zi _) zl 8 Tryz.f8 Tryz.func8 rfl zBO (lam N []) (zm (l := []) an (by kernel_rfl)) (zBP N) (fun _ => ⟨rfl, rfl⟩) (zyS N) (fun _ _ _ h => zu h (fun _ _ => rfl) (fun _ _ => rfl)) (zyR N)
end
end Go.Proofs.YthdgnfcbehcplaaGreatDoor
end
section
namespace Go.Proofs.YthdgnfcbehcplaaGreatDoor
noncomputable section
open Go.RowKit
set_option maxRecDepth 4000
set_option maxHeartbeats 4000000
def zBY : Nat -> Keep × Keep := anL []
def F9_g (N : Nat) : GamK := gam (P := qP) []
def zAb (N : Nat) : FSpec where
 X := qL
 Y := qL × Int
 ash := [[some 1]]
 S := ⟨[[none]], [], [some 1, none], [], []⟩
 pat := fun a b => rdA [.lst 1] [] a b fun ⟨a0, _⟩ _ => a0
 args := fun x => [(AV.list 1 x none)]
 ret := fun y => ⟨(AV.ptr 0 0), [], some [(AV.list 1 y.1 none), (AV.v (.int .i64 y.2))], [], [], [], none⟩
 t := fun x α k => (if 0 <= (if 2000 < (x.length : Int) then 2000 else (x.length : Int)) /\ (if 2000 < (x.length : Int) then 2000 else (x.length : Int)) <= x.length then (k ((x.take (if 2000 < (x.length : Int) then 2000 else (x.length : Int)).toNat), 0)) else none)
abbrev zEv (N : Nat) (x : qL) : Option (qL × Int) := (zAb N).d x
theorem zyV (N : Nat) : Zc (zAb N).t := by
 intro x α β k k' r r' h h1
 revert h
 dsimp only [zAb]
 (repeat' (first | (with_reducible refine ze ?_ ?_) | split)) <;> intro h <;> first | exact h1 _ h | cases h
theorem zyW (N : Nat) : Ze (zn qP) (F9_g N) zBY (lam N []) Tryz.f9 (zAb N) := fun x => by kernel_rfl
def F9_e (N : Nat) : Ent qP := zx (zd qP) (zi _) zl 9 Tryz.f9 Tryz.func9 rfl zBY (lam N []) (zm (l := []) an (by kernel_rfl)) (zAb N) (fun _ => ⟨rfl, rfl⟩) (zyW N) (fun _ _ _ h => zu h (fun _ _ => rfl) (fun _ _ => rfl)) (zyV N)
def zoh : Nat -> Keep × Keep := anL []
def zBb (N : Nat) : GamK := gam (P := qP) []
def zgE (N : Nat) : FSpec where
 X := qL × Int
 Y := Int × qL × Int
 ash := [[none]]
 bsh := [[some 1, none]]
 S := ⟨[[none]], [[some 1, none]], [], [], []⟩
 pat := fun a b => rdA [.ptr 0 0] [.cells [.lst 1, .int .i64]] a b fun ⟨_, _⟩ ⟨⟨a0, a1, _⟩, _⟩ => (a0, a1)
 args := fun x => [(AV.ptr 0 0)]
 bs := fun x => [[(AV.list 1 x.1 none), (AV.v (.int .i64 x.2))]]
 ret := fun y => ⟨(AV.v (.int .i64 y.1)), [[(AV.list 1 y.2.1 none), (AV.v (.int .i64 y.2.2))]], none, [], [], [], none⟩
 t := fun x α k => (match (decide (x.2 >= (x.1.length : Int))) with | true => (k (0, x)) | false => (if 0 <= (i64 ((i64 (x.2 + 1)) - 1)) then (match x.1[(i64 ((i64 (x.2 + 1)) - 1)).toNat]? with | some c1 => (match c1[0]? with | some x2 => (match x2 with | .v (.int q4 n3) => (if q4 = .i64 then (k (n3, x.1, (i64 (x.2 + 1)))) else none) | _ => none) | none => none) | none => none) else none))
abbrev zA9 (N : Nat) (x : qL × Int) : Option (Int × qL × Int) := (zgE N).d x
theorem zoi (N : Nat) : Zc (zgE N).t := by
 intro x α β k k' r r' h h1
 revert h
 dsimp only [zgE]
 (repeat' (first | (with_reducible refine ze ?_ ?_) | split)) <;> intro h <;> first | exact h1 _ h | cases h
theorem zoj (N : Nat) : Ze (zn qP) (zBb N) zoh (lam N []) Tryz.f43 (zgE N) := fun x => by kernel_rfl
def zBa (N : Nat) : Ent qP := zx (zd qP) (zi _) zl 43 Tryz.f43 Tryz.func43 rfl zoh (lam N []) (zm (l := []) an (by kernel_rfl)) (zgE N) (fun _ => ⟨rfl, rfl⟩) (zoj N) (fun _ _ _ h => zu h (fun _ _ => rfl) (fun _ _ => rfl)) (zoi N)
def znh : Nat -> Keep × Keep := anL []
def zAL (N : Nat) : GamK := gam (P := qP) [zBa N, zA7 N]
def zgr (N : Nat) : FSpec where
 X := Int × qL × Int
 Y := Int × qL × Int
 ash := [[none], [none]]
 bsh := [[some 1, none]]
 S := ⟨[[none]], [[some 1, none]], [], [], []⟩
 pat := fun a b => rdA [.ptr 0 0, .int .i64] [.cells [.lst 1, .int .i64]] a b fun ⟨_, a0, _⟩ ⟨⟨a1, a2, _⟩, _⟩ => (a0, a1, a2)
 args := fun x => [(AV.ptr 0 0), (AV.v (.int .i64 x.1))]
 bs := fun x => [[(AV.list 1 x.2.1 none), (AV.v (.int .i64 x.2.2))]]
 ret := fun y => ⟨(AV.v (.int .i64 y.1)), [[(AV.list 1 y.2.1 none), (AV.v (.int .i64 y.2.2))]], none, [], [], [], none⟩
 t := fun x α k => (match zA9 N x.2 with | some y1 => (match zog N (y1.1, x.1) with | some y2 => (k (y2, y1.2)) | none => none) | none => none)
abbrev ZG (N : Nat) (x : Int × qL × Int) : Option (Int × qL × Int) := (zgr N).d x
theorem zni (N : Nat) : Zc (zgr N).t := by
 intro x α β k k' r r' h h1
 revert h
 dsimp only [zgr]
 (repeat' (first | (with_reducible refine ze ?_ ?_) | split)) <;> intro h <;> first | exact h1 _ h | cases h
theorem znj (N : Nat) : Ze (zn qP) (zAL N) znh (lam N []) Tryz.f11 (zgr N) := fun x => by kernel_rfl
def zcW (N : Nat) : Ent qP := zx (zd qP) (zi _) zl 11 Tryz.f11 Tryz.func11 rfl znh (lam N []) (zm (l := []) an (by kernel_rfl)) (zgr N) (fun _ => ⟨rfl, rfl⟩) (znj N) (fun _ _ _ h => zu h (fun _ _ => rfl) (fun _ _ => rfl)) (zni N)
def zop : Nat -> Keep × Keep := anL []
def zBg (N : Nat) : GamK := gam (P := qP) [zcW N]
def zgG (N : Nat) : FSpec where
 X := Int × qL × Int
 Y := Int × Int × Int × qL × Int
 ash := [[none], [none]]
 bsh := [[some 1, none]]
 S := ⟨[[none, none, none]], [[some 1, none]], [], [], []⟩
 pat := fun a b => rdA [.ptr 0 0, .int .i64] [.cells [.lst 1, .int .i64]] a b fun ⟨_, a0, _⟩ ⟨⟨a1, a2, _⟩, _⟩ => (a0, a1, a2)
 args := fun x => [(AV.ptr 0 0), (AV.v (.int .i64 x.1))]
 bs := fun x => [[(AV.list 1 x.2.1 none), (AV.v (.int .i64 x.2.2))]]
 ret := fun y => ⟨(AV.agg [(AV.v (.int .i64 y.1)), (AV.v (.int .i64 y.2.1)), (AV.v (.int .i64 y.2.2.1))]), [[(AV.list 1 y.2.2.2.1 none), (AV.v (.int .i64 y.2.2.2.2))]], none, [], [], [], none⟩
 t := fun x α k => (match ZG N ((i64 ((i64 (2 * x.1)) + 1)), x.2) with | some y1 => (match ZG N ((i64 ((i64 (2 * x.1)) + 1)), y1.2) with | some y2 => (match ZG N ((i64 (x.1 + 1)), y2.2) with | some y3 => (k ((i64 (y1.1 - x.1)), (i64 (y2.1 - x.1)), y3)) | none => none) | none => none) | none => none)
abbrev zBe (N : Nat) (x : Int × qL × Int) : Option (Int × Int × Int × qL × Int) := (zgG N).d x
theorem zoq (N : Nat) : Zc (zgG N).t := by
 intro x α β k k' r r' h h1
 revert h
 dsimp only [zgG]
 (repeat' (first | (with_reducible refine ze ?_ ?_) | split)) <;> intro h <;> first | exact h1 _ h | cases h
theorem zor (N : Nat) : Ze (zn qP) (zBg N) zop (lam N []) Tryz.f46 (zgG N) := fun x => by kernel_rfl
def zBf (N : Nat) : Ent qP := zx (zd qP) (zi _) zl 46 Tryz.f46 Tryz.func46 rfl zop (lam N []) (zm (l := []) an (by kernel_rfl)) (zgG N) (fun _ => ⟨rfl, rfl⟩) (zor N) (fun _ _ _ h => zu h (fun _ _ => rfl) (fun _ _ => rfl)) (zoq N)
def znn : Nat -> Keep × Keep := anL []
def zAR (N : Nat) : GamK := gam (P := qP) [zcW N]
def zgt (N : Nat) : FSpec where
 X := qL × qL × Int
 Y := Int × qL × Int
 ash := [[none], [some 1]]
 bsh := [[some 1, none]]
 S := ⟨[[none]], [[some 1, none]], [], [], []⟩
 pat := fun a b => rdA [.ptr 0 0, .lst 1] [.cells [.lst 1, .int .i64]] a b fun ⟨_, a0, _⟩ ⟨⟨a1, a2, _⟩, _⟩ => (a0, a1, a2)
 args := fun x => [(AV.ptr 0 0), (AV.list 1 x.1 none)]
 bs := fun x => [[(AV.list 1 x.2.1 none), (AV.v (.int .i64 x.2.2))]]
 ret := fun y => ⟨(AV.v (.int .i64 y.1)), [[(AV.list 1 y.2.1 none), (AV.v (.int .i64 y.2.2))]], none, [], [], [], none⟩
 t := fun x α k => (match ZG N ((x.1.length : Int), x.2) with | some y1 => (if 0 <= y1.1 then (match x.1[y1.1.toNat]? with | some c2 => (match c2[0]? with | some x3 => (match x3 with | .v (.int q5 n4) => (if q5 = .i64 then (k (n4, y1.2)) else none) | _ => none) | none => none) | none => none) else none) | none => none)
abbrev zAP (N : Nat) (x : qL × qL × Int) : Option (Int × qL × Int) := (zgt N).d x
theorem zno (N : Nat) : Zc (zgt N).t := by
 intro x α β k k' r r' h h1
 revert h
 dsimp only [zgt]
 (repeat' (first | (with_reducible refine ze ?_ ?_) | split)) <;> intro h <;> first | exact h1 _ h | cases h
theorem znp (N : Nat) : Ze (zn qP) (zAR N) znn (lam N []) Tryz.f14 (zgt N) := fun x => by kernel_rfl
def zAQ (N : Nat) : Ent qP := zx (zd qP) (zi _) zl 14 Tryz.f14 Tryz.func14 rfl znn (lam N []) (zm (l := []) an (by kernel_rfl)) (zgt N) (fun _ => ⟨rfl, rfl⟩) (znp N) (fun _ _ _ h => zu h (fun _ _ => rfl) (fun _ _ => rfl)) (zno N)
def zaR : Nat -> Keep × Keep := anL [(6, ⟨[0, 1, 4, 5, 6, 7], [], [0, 4, 5], [], [((4, 9), 9)], [], [((5, 9), 9)], [], false, none, []⟩, ⟨[0, 4, 5, 6], [], [0, 4, 5], [], [((4, 9), 9)], [], [((5, 9), 9)], [], false, none, []⟩)]
def zwd (N : Nat) : GamK := gam (P := qP) [zcW N, zBc N, zBf N, zAQ N]
def zaS (N : Nat) : LSpec where
 X := Int × Int × Int × qL × Int × RT8 × zrh × qA
 Y := (Int × qL × Int × RT8 × zrh × qA)
 p := fun s => rdS 98 1 [(0, .ptr 0 0), (1, .int .i64), (4, .ptr 4 0), (5, .ptr 5 0), (6, .int .i64), (7, .int .i64)] [(0, .cells [.lst 1, .int .i64]), (4, .row RK8), (5, .row zEx), (2020489, .tt)] s fun ⟨_, a0, _, _, a1, a2, _⟩ ⟨⟨a3, a4, _⟩, a5, a6, a7, _⟩ => (a0, a1, a2, a3, a4, a5, a6, a7)
 st := fun u6 => mkS 98 [(0, (AV.ptr 0 0)), (1, (qI u6.1)), (4, (AV.ptr 4 0)), (5, (AV.ptr 5 0)), (6, (qI u6.2.1)), (7, (qI u6.2.2.1))] [(0, [(AV.list 1 u6.2.2.2.1 none), (qI u6.2.2.2.2.1)]), (4, (zC2 u6.2.2.2.2.2.1)), (5, (zuJ u6.2.2.2.2.2.2.1)), (2020489, u6.2.2.2.2.2.2.2)] (zaR 6).1.toks 1
 out := fun y => (.exit 0, mkS 98 [(0, (AV.ptr 0 0)), (4, (AV.ptr 4 0)), (5, (AV.ptr 5 0)), (6, (qI y.1))] [(0, [(AV.list 1 y.2.1 none), (qI y.2.2.1)]), (4, (zC2 y.2.2.2.1)), (5, (zuJ y.2.2.2.2.1)), (2020489, y.2.2.2.2.2)] (zaR 6).2.toks 1)
 b := fun u6 α kn ke => (match ZG N (4, u6.2.2.2.1, u6.2.2.2.2.1) with | some y5 => (match (decide (u6.2.2.1 < (i64 (1 + y5.1)))) with | true => (match zss N u6.2.2.1 with | some y6 => (match ZG N (3, y5.2) with | some y7 => (if u6.2.2.2.2.2.2.1.2.2.2.2.2.2.2.2.2.1 * 9 <= u6.2.2.2.2.2.2.2.length /\ (u6.2.2.2.2.2.2.1.2.2.2.2.2.2.2.2.2.1 + [(zy (y6.1, y6.2.1, y6.2.2.1, y6.2.2.2.1, (i64 (u6.2.1 + (i64 (10 * u6.1)))), (i64 (u6.2.1 + (i64 (10 * u6.1)))), (i64 ((i64 (u6.2.1 + (i64 (10 * u6.1)))) + y7.1)), u6.1, 0, ()))].length) * 104 <= zh then (kn (u6.1, u6.2.1, (i64 (u6.2.2.1 + 1)), y7.2.1, y7.2.2, u6.2.2.2.2.2.1, (u6.2.2.2.2.2.2.1.1, u6.2.2.2.2.2.2.1.2.1, u6.2.2.2.2.2.2.1.2.2.1, u6.2.2.2.2.2.2.1.2.2.2.1, u6.2.2.2.2.2.2.1.2.2.2.2.1, u6.2.2.2.2.2.2.1.2.2.2.2.2.1, u6.2.2.2.2.2.2.1.2.2.2.2.2.2.1, u6.2.2.2.2.2.2.1.2.2.2.2.2.2.2.1, u6.2.2.2.2.2.2.1.2.2.2.2.2.2.2.2.1, (u6.2.2.2.2.2.2.1.2.2.2.2.2.2.2.2.2.1 + [(zy (y6.1, y6.2.1, y6.2.2.1, y6.2.2.2.1, (i64 (u6.2.1 + (i64 (10 * u6.1)))), (i64 (u6.2.1 + (i64 (10 * u6.1)))), (i64 ((i64 (u6.2.1 + (i64 (10 * u6.1)))) + y7.1)), u6.1, 0, ()))].length), u6.2.2.2.2.2.2.1.2.2.2.2.2.2.2.2.2.2), ((u6.2.2.2.2.2.2.2.take (u6.2.2.2.2.2.2.1.2.2.2.2.2.2.2.2.2.1 * 9) ++ [(zy (y6.1, y6.2.1, y6.2.2.1, y6.2.2.2.1, (i64 (u6.2.1 + (i64 (10 * u6.1)))), (i64 (u6.2.1 + (i64 (10 * u6.1)))), (i64 ((i64 (u6.2.1 + (i64 (10 * u6.1)))) + y7.1)), u6.1, 0, ()))].flatten).map dat0))) else none) | none => none) | none => none) | false => (ke (u6.2.1, y5.2.1, y5.2.2, u6.2.2.2.2.2.1, u6.2.2.2.2.2.2.1, (u6.2.2.2.2.2.2.2.map dat0)))) | none => none)
abbrev zxQ (N : Nat) (x : Int × Int × Int × qL × Int × RT8 × zrh × qA) : Option ((Int × qL × Int × RT8 × zrh × qA)) := (zaS N).L N x
def zgu (N : Nat) : FSpec where
 X := Int × qL × Int
 Y := zyX × qL × Int × qA
 ash := [[none], [none]]
 bsh := [[some 1, none]]
 S := ⟨[[none, none, none, none, none, none, none, none, none, some 9, none, none, none, none, none, none, none, none, none, none, none, none, none, none, none]], [[some 1, none]], [], [], []⟩
 bm := true
 pat := fun a b => rdA [.ptr 0 0, .int .i64] [.cells [.lst 1, .int .i64]] a b fun ⟨_, a0, _⟩ ⟨⟨a1, a2, _⟩, _⟩ => (a0, a1, a2)
 args := fun x => [(AV.ptr 0 0), (AV.v (.int .i64 x.1))]
 bs := fun x => [[(AV.list 1 x.2.1 none), (AV.v (.int .i64 x.2.2))]]
 ret := fun y => ⟨(AV.agg (zB0 y.1)), [[(AV.list 1 y.2.1 none), (AV.v (.int .i64 y.2.2.1))]], some y.2.2.2, [], [], [], none⟩
 t := fun x α k => (match ZG N (300, x.2) with | some y1 => (match zxQ N (x.1, (i64 (1000 + y1.1)), 0, y1.2.1, y1.2.2, ((⟨#[]⟩ : ByteArray), (⟨#[]⟩ : ByteArray), (⟨#[]⟩ : ByteArray), (⟨#[]⟩ : ByteArray), 0, 0, 0, 0, 0, ([] : qL), 0, 0, 0, 0, 0, 0, 0, 0, 0, 0, 0, 0, 0, 0, 0, ()), ((⟨#[]⟩ : ByteArray), (⟨#[]⟩ : ByteArray), (⟨#[]⟩ : ByteArray), (⟨#[]⟩ : ByteArray), 0, 0, 0, 0, 0, 0, 0, 0, 0, 0, 0, 0, 0, 0, 0, 0, 0, 0, 0, 0, 0, ()), ([] : List AV)) with | some y8 => (if 0 <= (0 : Int) /\ (0 : Int) < (y8.2.2.2.2.1.2.2.2.2.2.2.2.2.2.1 : Int) then (match Jv (y8.2.2.2.2.2.drop ((0 + (0 : Int).toNat) * 9)) with | some e9 => (match zBe N (20, y8.2.1, y8.2.2.1) with | some y10 => (match ZG N (40, y10.2.2.2) with | some y11 => (match zAP N ([[(AV.v (.int .i64 0))], [(AV.v (.int .i64 0))], [(AV.v (.int .i64 5))], [(AV.v (.int .i64 500))]], y11.2) with | some y12 => (match ZG N (3, y12.2) with | some y13 => (match (decide (y13.1 > 0)) with | true => (match ZG N (400, y13.2) with | some y14 => (match ZG N (60, y14.2) with | some y15 => (k ((e9.1, e9.2.1, e9.2.2.1, e9.2.2.2.1, e9.2.2.2.2.1, e9.2.2.2.2.2.1, e9.2.2.2.2.2.2.1, e9.2.2.2.2.2.2.2.1, e9.2.2.2.2.2.2.2.2.1, y8.2.2.2.2.1.2.2.2.2.2.2.2.2.2.1, y10.1, y10.2.1, y10.2.2.1, (i64 (y8.1 - y11.1)), y12.1, 0, y10.1, y10.2.1, y10.2.2.1, y10.1, y10.2.1, y10.2.2.1, y14.1, (i64 (y14.1 + y15.1)), y13.1, ()), y15.2.1, y15.2.2, (y8.2.2.2.2.2.map dat0))) | none => none) | none => none) | false => (k ((e9.1, e9.2.1, e9.2.2.1, e9.2.2.2.1, e9.2.2.2.2.1, e9.2.2.2.2.2.1, e9.2.2.2.2.2.2.1, e9.2.2.2.2.2.2.2.1, e9.2.2.2.2.2.2.2.2.1, y8.2.2.2.2.1.2.2.2.2.2.2.2.2.2.1, y10.1, y10.2.1, y10.2.2.1, (i64 (y8.1 - y11.1)), y12.1, 0, y10.1, y10.2.1, y10.2.2.1, y10.1, y10.2.1, y10.2.2.1, y8.2.2.2.2.1.2.2.2.2.2.2.2.2.2.2.2.2.2.2.2.2.2.2.2.2.2.2.1, y8.2.2.2.2.1.2.2.2.2.2.2.2.2.2.2.2.2.2.2.2.2.2.2.2.2.2.2.2.1, y13.1, ()), y13.2.1, y13.2.2, (y8.2.2.2.2.2.map dat0)))) | none => none) | none => none) | none => none) | none => none) | none => none) else none) | none => none) | none => none)
abbrev zAS (N : Nat) (x : Int × qL × Int) : Option (zyX × qL × Int × qA) := (zgu N).d x
def zcX (N : Nat) : List (Nat × LSpec) := [(6, zaS N)]
def zi0 : Code := Tryz.f15.body.getD .skip
theorem znt (N : Nat) : Par (zaS N).b := by
 intro x α β kn ke kn' ke' r r' h h1 h2
 revert h
 dsimp only [zaS]
 (repeat' (first | (with_reducible refine ze ?_ ?_) | split)) <;> intro h <;> first | exact h1 _ h | exact h2 _ h | cases h
theorem zkm (N : Nat) : je (J2 qP [41]) (zwd N) zaR N (zcX N) 6 zi0 (zaS N) := fun x α kn ke => by kernel_rfl
theorem zkn (N : Nat) : ZE qP zaR N (zcX N) 6 (zc 6 zi0) :=
 zC (zM qP [41]) (zi _) zl zaR N (zcX N) 6 zi0 (l := []) (by kernel_rfl) (by kernel_rfl) an (zaS N) rfl (fun s x hc h => by dsimp only [zaS] at h; exact zI hc h (fun _ _ => rfl) rfl rfl rfl) (fun _ => rfl) (zkm N) (znt N)
theorem znu (N : Nat) : Zc (zgu N).t := by
 intro x α β k k' r r' h h1
 revert h
 dsimp only [zgu]
 (repeat' (first | (with_reducible refine ze ?_ ?_) | split)) <;> intro h <;> first | exact h1 _ h | cases h
theorem znv (N : Nat) : Ze (J2 qP [41]) (zwd N) zaR (lam N (zcX N)) Tryz.f15 (zgu N) := fun x => by kernel_rfl
def zAT (N : Nat) : Ent qP := zx (zM qP [41]) (zi _) zl 15 Tryz.f15 Tryz.func15 rfl zaR (lam N (zcX N)) (zm (l := [(6, zc 6 zi0)]) (al (zkn N) an) (by kernel_rfl)) (zgu N) (fun _ => ⟨rfl, rfl⟩) (znv N) (fun _ _ _ h => zu h (fun _ _ => rfl) (fun _ _ => rfl)) (znu N)
def jv : Nat -> Keep × Keep := anF [(5, ⟨[0, 1, 6], [], [0], [], [], [(5, 25)], [], [], false, none, []⟩, ⟨[], [], [0], [], [], [(5, 25)], [], [], false, none, []⟩), (18, ⟨[0, 1, 5, 6, 7, 23, 24], [], [0, 7, 19, 1000005], [], [], [], [], [19, 1000005], false, none, []⟩, ⟨[0, 1, 5, 6, 7], [], [0, 7, 19, 1000005], [], [], [], [], [19, 1000005], false, none, []⟩)] [(100015, ([], [((7, 9), 9)])), (100016, ([5], []))]
def znJ (N : Nat) : GamK := gam (P := qP) [zcW N, zAT N]
def JL (N : Nat) : LSpec where
 X := Int × Nat × Int × Int × Int × qL × Int × zuI × qA × qA
 Y := (Int × Nat × Int × qL × Int × zuI × qA × qA)
 p := fun s => rdS 86 1 [(0, .ptr 0 0), (1, .int .i64), (5, .vs0 1000005 25), (6, .int .i64), (7, .ptr 7 0), (23, .int .i64), (24, .int .i64)] [(0, .cells [.lst 1, .int .i64]), (7, .row zEy), (19, .tt), (1000005, .tt)] s fun ⟨_, a0, a1, a2, _, a3, a4, _⟩ ⟨⟨a5, a6, _⟩, a7, a8, a9, _⟩ => (a0, a1, a2, a3, a4, a5, a6, a7, a8, a9)
 st := fun u18 => mkS 86 [(0, (AV.ptr 0 0)), (1, (qI u18.1)), (5, (AV.vs 1000005 0 u18.2.1 25)), (6, (qI u18.2.2.1)), (7, (AV.ptr 7 0)), (23, (qI u18.2.2.2.1)), (24, (qI u18.2.2.2.2.1))] [(0, [(AV.list 1 u18.2.2.2.2.2.1 none), (qI u18.2.2.2.2.2.2.1)]), (7, (zuK u18.2.2.2.2.2.2.2.1)), (19, u18.2.2.2.2.2.2.2.2.1), (1000005, u18.2.2.2.2.2.2.2.2.2)] (jv 18).1.toks 1
 out := fun y => (.exit 2, mkS 86 [(0, (AV.ptr 0 0)), (1, (qI y.1)), (5, (AV.vs 1000005 0 y.2.1 25)), (6, (qI y.2.2.1)), (7, (AV.ptr 7 0))] [(0, [(AV.list 1 y.2.2.2.1 none), (qI y.2.2.2.2.1)]), (7, (zuK y.2.2.2.2.2.1)), (19, y.2.2.2.2.2.2.1), (1000005, y.2.2.2.2.2.2.2)] (jv 18).2.toks 1)
 b := fun u18 α kn ke => (match (decide (u18.2.2.2.2.1 < u18.2.2.2.1)) with | true => (if 0 <= u18.2.2.2.2.1 /\ u18.2.2.2.2.1 < (u18.2.2.2.2.2.2.2.1.2.2.2.2.2.2.2.2.2.1 : Int) then (if (((0 + u18.2.2.2.2.1.toNat) * 9) + 4) + 1 <= u18.2.2.2.2.2.2.2.2.1.length then (if (((0 + u18.2.2.2.2.1.toNat) * 9) + 5) + 1 <= (splice u18.2.2.2.2.2.2.2.2.1 (((0 + u18.2.2.2.2.1.toNat) * 9) + 4) [(AV.v (.int .i64 (i64 ((i64 (1000 + (i64 (400 * u18.2.2.1)))) + u18.2.2.2.2.1))))]).length then (if (((0 + u18.2.2.2.2.1.toNat) * 9) + 6) + 1 <= (splice (splice u18.2.2.2.2.2.2.2.2.1 (((0 + u18.2.2.2.2.1.toNat) * 9) + 4) [(AV.v (.int .i64 (i64 ((i64 (1000 + (i64 (400 * u18.2.2.1)))) + u18.2.2.2.2.1))))]) (((0 + u18.2.2.2.2.1.toNat) * 9) + 5) [(AV.v (.int .i64 (i64 ((i64 (1000 + (i64 (400 * u18.2.2.1)))) + u18.2.2.2.2.1))))]).length then (if (((0 + u18.2.2.2.2.1.toNat) * 9) + 7) + 1 <= (splice (splice (splice u18.2.2.2.2.2.2.2.2.1 (((0 + u18.2.2.2.2.1.toNat) * 9) + 4) [(AV.v (.int .i64 (i64 ((i64 (1000 + (i64 (400 * u18.2.2.1)))) + u18.2.2.2.2.1))))]) (((0 + u18.2.2.2.2.1.toNat) * 9) + 5) [(AV.v (.int .i64 (i64 ((i64 (1000 + (i64 (400 * u18.2.2.1)))) + u18.2.2.2.2.1))))]) (((0 + u18.2.2.2.2.1.toNat) * 9) + 6) [(AV.v (.int .i64 (i64 ((i64 ((i64 (1000 + (i64 (400 * u18.2.2.1)))) + u18.2.2.2.2.1)) + 2))))]).length then (kn (u18.1, u18.2.1, u18.2.2.1, u18.2.2.2.1, (i64 (u18.2.2.2.2.1 + 1)), u18.2.2.2.2.2.1, u18.2.2.2.2.2.2.1, u18.2.2.2.2.2.2.2.1, ((splice (splice (splice (splice u18.2.2.2.2.2.2.2.2.1 (((0 + u18.2.2.2.2.1.toNat) * 9) + 4) [(AV.v (.int .i64 (i64 ((i64 (1000 + (i64 (400 * u18.2.2.1)))) + u18.2.2.2.2.1))))]) (((0 + u18.2.2.2.2.1.toNat) * 9) + 5) [(AV.v (.int .i64 (i64 ((i64 (1000 + (i64 (400 * u18.2.2.1)))) + u18.2.2.2.2.1))))]) (((0 + u18.2.2.2.2.1.toNat) * 9) + 6) [(AV.v (.int .i64 (i64 ((i64 ((i64 (1000 + (i64 (400 * u18.2.2.1)))) + u18.2.2.2.2.1)) + 2))))]) (((0 + u18.2.2.2.2.1.toNat) * 9) + 7) [(AV.v (.int .i64 7))]).map dat0), (u18.2.2.2.2.2.2.2.2.2.map dat0))) else none) else none) else none) else none) else none) | false => (ke (u18.1, u18.2.1, u18.2.2.1, u18.2.2.2.2.2.1, u18.2.2.2.2.2.2.1, u18.2.2.2.2.2.2.2.1, (u18.2.2.2.2.2.2.2.2.1.map dat0), (u18.2.2.2.2.2.2.2.2.2.map dat0))))
abbrev zrR (N : Nat) (x : Int × Nat × Int × Int × Int × qL × Int × zuI × qA × qA) : Option ((Int × Nat × Int × qL × Int × zuI × qA × qA)) := (JL N).L N x
def zaT (N : Nat) : LSpec where
 X := Nat × Int × Int × qL × Int × qA
 Y := (Nat × qL × Int × qA)
 p := fun s => rdS 86 1 [(5, .vs0 1000005 25), (0, .ptr 0 0), (1, .int .i64), (6, .int .i64)] [(0, .cells [.lst 1, .int .i64]), (1000005, .tt)] s fun ⟨a0, _, a1, a2, _⟩ ⟨⟨a3, a4, _⟩, a5, _⟩ => (a0, a1, a2, a3, a4, a5)
 st := fun u5 => mkS 86 [(5, (AV.vs 1000005 0 u5.1 25)), (0, (AV.ptr 0 0)), (1, (qI u5.2.1)), (6, (qI u5.2.2.1))] [(0, [(AV.list 1 u5.2.2.2.1 none), (qI u5.2.2.2.2.1)]), (1000005, u5.2.2.2.2.2)] (jv 5).1.toks 1
 out := fun y => (.exit 0, mkS 86 [(5, (AV.vs 1000005 0 y.1 25))] [(0, [(AV.list 1 y.2.1 none), (qI y.2.2.1)]), (1000005, y.2.2.2)] (jv 5).2.toks 1)
 b := fun u5 α kn ke => (match (decide (u5.2.2.1 < u5.2.1)) with | true => (match ZG N (3, u5.2.2.2.1, u5.2.2.2.2.1) with | some y6 => (match (y6.1 == 0) with | true => (kn (u5.1, u5.2.1, (i64 (u5.2.2.1 + 1)), y6.2.1, y6.2.2, (u5.2.2.2.2.2.map dat0))) | false => (match zAS N (1, y6.2) with | some y7 => (match zrR N (u5.2.1, u5.1, u5.2.2.1, ((y7.1.2.2.2.2.2.2.2.2.2.1 : Nat) : Int), 0, y7.2.1, y7.2.2.1, y7.1, ((y7.2.2.2.map dat0).map dat0), (u5.2.2.2.2.2.map dat0)) with | some y8 => (match ZG N (2, y8.2.2.2.1, y8.2.2.2.2.1) with | some y9 => (if 0 <= (if (i64 (((y8.2.2.2.2.2.1.2.2.2.2.2.2.2.2.2.1 : Nat) : Int) - 1)) < y9.1 then (i64 (((y8.2.2.2.2.2.1.2.2.2.2.2.2.2.2.2.1 : Nat) : Int) - 1)) else y9.1) /\ (if (i64 (((y8.2.2.2.2.2.1.2.2.2.2.2.2.2.2.2.1 : Nat) : Int) - 1)) < y9.1 then (i64 (((y8.2.2.2.2.2.1.2.2.2.2.2.2.2.2.2.1 : Nat) : Int) - 1)) else y9.1) <= (y8.2.2.2.2.2.1.2.2.2.2.2.2.2.2.2.1 : Int) then (if 0 <= (0 : Int) /\ (0 : Int) < (((y8.2.2.2.2.2.1.2.2.2.2.2.2.2.2.2.1 - (if (i64 (((y8.2.2.2.2.2.1.2.2.2.2.2.2.2.2.2.1 : Nat) : Int) - 1)) < y9.1 then (i64 (((y8.2.2.2.2.2.1.2.2.2.2.2.2.2.2.2.1 : Nat) : Int) - 1)) else y9.1).toNat) : Nat) : Int) then (match Jv (y8.2.2.2.2.2.2.1.drop (((0 + (if (i64 (((y8.2.2.2.2.2.1.2.2.2.2.2.2.2.2.2.1 : Nat) : Int) - 1)) < y9.1 then (i64 (((y8.2.2.2.2.2.1.2.2.2.2.2.2.2.2.2.1 : Nat) : Int) - 1)) else y9.1).toNat) + (0 : Int).toNat) * 9)) with | some e10 => (if (y8.2.2.2.2.2.1.2.2.2.2.2.2.2.2.2.1 - (if (i64 (((y8.2.2.2.2.2.1.2.2.2.2.2.2.2.2.2.1 : Nat) : Int) - 1)) < y9.1 then (i64 (((y8.2.2.2.2.2.1.2.2.2.2.2.2.2.2.2.1 : Nat) : Int) - 1)) else y9.1).toNat) * 9 <= (zaj (0 + (if (i64 (((y8.2.2.2.2.2.1.2.2.2.2.2.2.2.2.2.1 : Nat) : Int) - 1)) < y9.1 then (i64 (((y8.2.2.2.2.2.1.2.2.2.2.2.2.2.2.2.1 : Nat) : Int) - 1)) else y9.1).toNat) 9 y8.2.2.2.2.2.2.1).length then (if y8.2.1 * 25 <= y8.2.2.2.2.2.2.2.length /\ (y8.2.1 + [(zB (e10.1, e10.2.1, e10.2.2.1, e10.2.2.2.1, e10.2.2.2.2.1, e10.2.2.2.2.2.1, e10.2.2.2.2.2.2.1, e10.2.2.2.2.2.2.2.1, e10.2.2.2.2.2.2.2.2.1, (zL ((zaj (0 + (if (i64 (((y8.2.2.2.2.2.1.2.2.2.2.2.2.2.2.2.1 : Nat) : Int) - 1)) < y9.1 then (i64 (((y8.2.2.2.2.2.1.2.2.2.2.2.2.2.2.2.1 : Nat) : Int) - 1)) else y9.1).toNat) 9 y8.2.2.2.2.2.2.1).take ((y8.2.2.2.2.2.1.2.2.2.2.2.2.2.2.2.1 - (if (i64 (((y8.2.2.2.2.2.1.2.2.2.2.2.2.2.2.2.1 : Nat) : Int) - 1)) < y9.1 then (i64 (((y8.2.2.2.2.2.1.2.2.2.2.2.2.2.2.2.1 : Nat) : Int) - 1)) else y9.1).toNat) * 9)) 9 (y8.2.2.2.2.2.1.2.2.2.2.2.2.2.2.2.1 - (if (i64 (((y8.2.2.2.2.2.1.2.2.2.2.2.2.2.2.2.1 : Nat) : Int) - 1)) < y9.1 then (i64 (((y8.2.2.2.2.2.1.2.2.2.2.2.2.2.2.2.1 : Nat) : Int) - 1)) else y9.1).toNat)), y8.2.2.2.2.2.1.2.2.2.2.2.2.2.2.2.2))].length) * 248 <= zh then (kn ((y8.2.1 + [(zB (e10.1, e10.2.1, e10.2.2.1, e10.2.2.2.1, e10.2.2.2.2.1, e10.2.2.2.2.2.1, e10.2.2.2.2.2.2.1, e10.2.2.2.2.2.2.2.1, e10.2.2.2.2.2.2.2.2.1, (zL ((zaj (0 + (if (i64 (((y8.2.2.2.2.2.1.2.2.2.2.2.2.2.2.2.1 : Nat) : Int) - 1)) < y9.1 then (i64 (((y8.2.2.2.2.2.1.2.2.2.2.2.2.2.2.2.1 : Nat) : Int) - 1)) else y9.1).toNat) 9 y8.2.2.2.2.2.2.1).take ((y8.2.2.2.2.2.1.2.2.2.2.2.2.2.2.2.1 - (if (i64 (((y8.2.2.2.2.2.1.2.2.2.2.2.2.2.2.2.1 : Nat) : Int) - 1)) < y9.1 then (i64 (((y8.2.2.2.2.2.1.2.2.2.2.2.2.2.2.2.1 : Nat) : Int) - 1)) else y9.1).toNat) * 9)) 9 (y8.2.2.2.2.2.1.2.2.2.2.2.2.2.2.2.1 - (if (i64 (((y8.2.2.2.2.2.1.2.2.2.2.2.2.2.2.2.1 : Nat) : Int) - 1)) < y9.1 then (i64 (((y8.2.2.2.2.2.1.2.2.2.2.2.2.2.2.2.1 : Nat) : Int) - 1)) else y9.1).toNat)), y8.2.2.2.2.2.1.2.2.2.2.2.2.2.2.2.2))].length), y8.1, (i64 (y8.2.2.1 + 1)), y9.2.1, y9.2.2, ((y8.2.2.2.2.2.2.2.take (y8.2.1 * 25) ++ [(zB (e10.1, e10.2.1, e10.2.2.1, e10.2.2.2.1, e10.2.2.2.2.1, e10.2.2.2.2.2.1, e10.2.2.2.2.2.2.1, e10.2.2.2.2.2.2.2.1, e10.2.2.2.2.2.2.2.2.1, (zL ((zaj (0 + (if (i64 (((y8.2.2.2.2.2.1.2.2.2.2.2.2.2.2.2.1 : Nat) : Int) - 1)) < y9.1 then (i64 (((y8.2.2.2.2.2.1.2.2.2.2.2.2.2.2.2.1 : Nat) : Int) - 1)) else y9.1).toNat) 9 y8.2.2.2.2.2.2.1).take ((y8.2.2.2.2.2.1.2.2.2.2.2.2.2.2.2.1 - (if (i64 (((y8.2.2.2.2.2.1.2.2.2.2.2.2.2.2.2.1 : Nat) : Int) - 1)) < y9.1 then (i64 (((y8.2.2.2.2.2.1.2.2.2.2.2.2.2.2.2.1 : Nat) : Int) - 1)) else y9.1).toNat) * 9)) 9 (y8.2.2.2.2.2.1.2.2.2.2.2.2.2.2.2.1 - (if (i64 (((y8.2.2.2.2.2.1.2.2.2.2.2.2.2.2.2.1 : Nat) : Int) - 1)) < y9.1 then (i64 (((y8.2.2.2.2.2.1.2.2.2.2.2.2.2.2.2.1 : Nat) : Int) - 1)) else y9.1).toNat)), y8.2.2.2.2.2.1.2.2.2.2.2.2.2.2.2.2))].flatten).map dat0))) else none) else none) | none => none) else none) else none) | none => none) | none => none) | none => none)) | none => none) | false => (ke (u5.1, u5.2.2.2.1, u5.2.2.2.2.1, (u5.2.2.2.2.2.map dat0))))
abbrev zyb (N : Nat) (x : Nat × Int × Int × qL × Int × qA) : Option ((Nat × qL × Int × qA)) := (zaT N).L N x
def zgw (N : Nat) : FSpec where
 X := Int × qL × Int
 Y := qL × qL × Int
 ash := [[none], [none]]
 bsh := [[some 1, none]]
 S := ⟨[[some 2000025]], [[some 1, none]], [], [], []⟩
 pat := fun a b => rdA [.ptr 0 0, .int .i64] [.cells [.lst 1, .int .i64]] a b fun ⟨_, a0, _⟩ ⟨⟨a1, a2, _⟩, _⟩ => (a0, a1, a2)
 args := fun x => [(AV.ptr 0 0), (AV.v (.int .i64 x.1))]
 bs := fun x => [[(AV.list 1 x.2.1 none), (AV.v (.int .i64 x.2.2))]]
 ret := fun y => ⟨(AV.list 25 y.1 (some 2560000000)), [[(AV.list 1 y.2.1 none), (AV.v (.int .i64 y.2.2))]], none, [], [2560000000], [], none⟩
 t := fun x α k => (match zyb N (0, x.1, 0, x.2.1, x.2.2, ([] : List AV)) with | some y11 => (if y11.1 * 25 <= y11.2.2.2.length then (k ((zL (y11.2.2.2.take (y11.1 * 25)) 25 y11.1), y11.2.1, y11.2.2.1)) else none) | none => none)
abbrev zi2 (N : Nat) (x : Int × qL × Int) : Option (qL × qL × Int) := (zgw N).d x
def J9 (N : Nat) : List (Nat × LSpec) := [(5, zaT N), (18, JL N)]
def za8 : Code := Tryz.f27.body.getD .skip
theorem zkA (N : Nat) : Par (JL N).b := by
 intro x α β kn ke kn' ke' r r' h h1 h2
 revert h
 dsimp only [JL]
 (repeat' (first | (with_reducible refine ze ?_ ?_) | split)) <;> intro h <;> first | exact h1 _ h | exact h2 _ h | cases h
theorem zhK (N : Nat) : je (J2 qP [19, 84]) (znJ N) jv N (J9 N) 18 za8 (JL N) := fun x α kn ke => by kernel_rfl
theorem zcY (N : Nat) : ZE qP jv N (J9 N) 18 (zc 18 za8) :=
 zC (zM qP [19, 84]) (zi _) zl jv N (J9 N) 18 za8 (l := []) (by kernel_rfl) (by kernel_rfl) an (JL N) rfl (fun s x hc h => by dsimp only [JL] at h; exact zI hc h (fun _ _ => rfl) rfl rfl rfl) (fun _ => rfl) (zhK N) (zkA N)
theorem znK (N : Nat) : Par (zaT N).b := by
 intro x α β kn ke kn' ke' r r' h h1 h2
 revert h
 dsimp only [zaT]
 (repeat' (first | (with_reducible refine ze ?_ ?_) | split)) <;> intro h <;> first | exact h1 _ h | exact h2 _ h | cases h
theorem zky (N : Nat) : je (J2 qP [19, 84]) (znJ N) jv N (J9 N) 5 za8 (zaT N) := fun x α kn ke => by kernel_rfl
theorem zkz (N : Nat) : ZE qP jv N (J9 N) 5 (zc 5 za8) :=
 zC (zM qP [19, 84]) (zi _) zl jv N (J9 N) 5 za8 (l := [(18, zc 18 za8)]) (by kernel_rfl) (by kernel_rfl) (al (zcY N) an) (zaT N) rfl (fun s x hc h => by dsimp only [zaT] at h; exact zI hc h (fun _ _ => rfl) rfl rfl rfl) (fun _ => rfl) (zky N) (znK N)
theorem znL (N : Nat) : Zc (zgw N).t := by
 intro x α β k k' r r' h h1
 revert h
 dsimp only [zgw]
 (repeat' (first | (with_reducible refine ze ?_ ?_) | split)) <;> intro h <;> first | exact h1 _ h | cases h
theorem znM (N : Nat) : Ze (J2 qP [19, 84]) (znJ N) jv (lam N (J9 N)) Tryz.f27 (zgw N) := fun x => by kernel_rfl
def zwp (N : Nat) : Ent qP := zx (zM qP [19, 84]) (zi _) zl 27 Tryz.f27 Tryz.func27 rfl jv (lam N (J9 N)) (zm (l := [(5, zc 5 za8), (18, zc 18 za8)]) (al (zkz N) (al (zcY N) an)) (by kernel_rfl)) (zgw N) (fun _ => ⟨rfl, rfl⟩) (znM N) (fun _ _ _ h => zu h (fun _ _ => rfl) (fun _ _ => rfl)) (znL N)
def znk : Nat -> Keep × Keep := anL []
def zAN (N : Nat) : GamK := gam (P := qP) [zcW N]
def zgs (N : Nat) : FSpec where
 X := qL × qL × Int
 Y := ByteArray × qL × Int
 ash := [[none], [some 1]]
 bsh := [[some 1, none]]
 S := ⟨[[none]], [[some 1, none]], [], [], []⟩
 pat := fun a b => rdA [.ptr 0 0, .lst 1] [.cells [.lst 1, .int .i64]] a b fun ⟨_, a0, _⟩ ⟨⟨a1, a2, _⟩, _⟩ => (a0, a1, a2)
 args := fun x => [(AV.ptr 0 0), (AV.list 1 x.1 none)]
 bs := fun x => [[(AV.list 1 x.2.1 none), (AV.v (.int .i64 x.2.2))]]
 ret := fun y => ⟨(AV.v (.string y.1)), [[(AV.list 1 y.2.1 none), (AV.v (.int .i64 y.2.2))]], none, [], [], [], none⟩
 t := fun x α k => (match ZG N ((x.1.length : Int), x.2) with | some y1 => (if 0 <= y1.1 then (match x.1[y1.1.toNat]? with | some c2 => (match c2[0]? with | some x3 => (match x3 with | .v (.string s4) => (k (s4, y1.2)) | _ => none) | none => none) | none => none) else none) | none => none)
abbrev ziZ (N : Nat) (x : qL × qL × Int) : Option (ByteArray × qL × Int) := (zgs N).d x
theorem znl (N : Nat) : Zc (zgs N).t := by
 intro x α β k k' r r' h h1
 revert h
 dsimp only [zgs]
 (repeat' (first | (with_reducible refine ze ?_ ?_) | split)) <;> intro h <;> first | exact h1 _ h | cases h
theorem znm (N : Nat) : Ze (zn qP) (zAN N) znk (lam N []) Tryz.f13 (zgs N) := fun x => by kernel_rfl
def zAM (N : Nat) : Ent qP := zx (zd qP) (zi _) zl 13 Tryz.f13 Tryz.func13 rfl znk (lam N []) (zm (l := []) an (by kernel_rfl)) (zgs N) (fun _ => ⟨rfl, rfl⟩) (znm N) (fun _ _ _ h => zu h (fun _ _ => rfl) (fun _ _ => rfl)) (znl N)
def zaP : Nat -> Keep × Keep := anL [(6, ⟨[0, 1, 4, 6, 7, 8], [], [0, 4, 6], [], [((4, 0), 1)], [], [], [], false, none, [((6, 0), 1)]⟩, ⟨[4, 6, 7], [], [0, 4, 6], [], [((4, 0), 1)], [], [], [], false, none, [((6, 0), 1)]⟩)]
def zv6 (N : Nat) : GamK := gam (P := qP) [zcW N, zwp N, zAM N, zDi N, zDm N, zDq N, zDu N, zDA N]
def zaQ (N : Nat) : LSpec where
 X := Int × Int × Int × qL × Int × qL × qL
 Y := (Int × qL × Int × qL × qL)
 p := fun s => rdS 111 1 [(0, .ptr 0 0), (1, .int .i64), (4, .ptr 4 0), (6, .ptr 6 0), (7, .int .i64), (8, .int .i64)] [(0, .cells [.lst 1, .int .i64]), (4, .cells [.tok 1 6401048576]), (6, .cells [.lst 1])] s fun ⟨_, a0, _, _, a1, a2, _⟩ ⟨⟨a3, a4, _⟩, ⟨a5, _⟩, ⟨a6, _⟩, _⟩ => (a0, a1, a2, a3, a4, a5, a6)
 st := fun u6 => mkS 111 [(0, (AV.ptr 0 0)), (1, (qI u6.1)), (4, (AV.ptr 4 0)), (6, (AV.ptr 6 0)), (7, (qI u6.2.1)), (8, (qI u6.2.2.1))] [(0, [(AV.list 1 u6.2.2.2.1 none), (qI u6.2.2.2.2.1)]), (4, [(AV.list 1 u6.2.2.2.2.2.1 (some 6401048576))]), (6, [(AV.list 1 u6.2.2.2.2.2.2 none)])] (zaP 6).1.toks 1
 out := fun y => (.exit 0, mkS 111 [(4, (AV.ptr 4 0)), (6, (AV.ptr 6 0)), (7, (qI y.1))] [(0, [(AV.list 1 y.2.1 none), (qI y.2.2.1)]), (4, [(AV.list 1 y.2.2.2.1 (some 6401048576))]), (6, [(AV.list 1 y.2.2.2.2 none)])] (zaP 6).2.toks 1)
 b := fun u6 α kn ke => (match (decide (u6.2.2.1 < u6.1)) with | true => (match ZG N (50, u6.2.2.2.1, u6.2.2.2.2.1) with | some y19 => (match ZG N ((if (u6.2.2.2.2.2.2.length : Int) > 1 then (u6.2.2.2.2.2.2.length : Int) else 1), y19.2) with | some y20 => (match ZG N (8, y20.2) with | some y21 => (match (y21.1 == 0) with | true => (match zi2 N (4, y21.2) with | some y22 => (match (decide ((y22.1.length : Int) > 0)) with | true => (match ziZ N ([[(AV.v (.string (⟨#[97, 110, 110]⟩ : ByteArray)))], [(AV.v (.string (⟨#[98, 111, 98]⟩ : ByteArray)))]], y22.2) with | some y23 => (match ZG N ((y22.1.length : Int), y23.2) with | some y24 => (if 0 <= y24.1 then (match y22.1[y24.1.toNat]? with | some c25 => (match zgT c25 with | some e26 => (match zxS N (u6.2.2.2.2.2.2, y20.1, y23.1, e26, (i64 (u6.2.1 + y19.1))) with | some y27 => (match (y27.2 == 0) with | true => (kn (u6.1, (i64 (u6.2.1 + y19.1)), (i64 (u6.2.2.1 + 1)), y24.2.1, y24.2.2, u6.2.2.2.2.2.1, y27.1)) | false => (kn (u6.1, (i64 (u6.2.1 + y19.1)), (i64 (u6.2.2.1 + 1)), y24.2.1, y24.2.2, u6.2.2.2.2.2))) | none => none) | none => none) | none => none) else none) | none => none) | none => none) | false => (match (0 == 0) with | true => (kn (u6.1, (i64 (u6.2.1 + y19.1)), (i64 (u6.2.2.1 + 1)), y22.2.1, y22.2.2, u6.2.2.2.2.2)) | false => (kn (u6.1, (i64 (u6.2.1 + y19.1)), (i64 (u6.2.2.1 + 1)), y22.2.1, y22.2.2, u6.2.2.2.2.2)))) | none => none) | false => (match (y21.1 == 1) with | true => (match ziZ N ([[(AV.v (.string (⟨#[97, 110, 110]⟩ : ByteArray)))], [(AV.v (.string (⟨#[98, 111, 98]⟩ : ByteArray)))]], y21.2) with | some y28 => (match zxW N (u6.2.2.2.2.2.2, y20.1, y28.1, (i64 (u6.2.1 + y19.1))) with | some y29 => (match (y29.2 == 0) with | true => (kn (u6.1, (i64 (u6.2.1 + y19.1)), (i64 (u6.2.2.1 + 1)), y28.2.1, y28.2.2, u6.2.2.2.2.2.1, y29.1)) | false => (kn (u6.1, (i64 (u6.2.1 + y19.1)), (i64 (u6.2.2.1 + 1)), y28.2.1, y28.2.2, u6.2.2.2.2.2))) | none => none) | none => none) | false => (match (y21.1 == 2) with | true => (match ZG N ((if (u6.2.2.2.2.2.2.length : Int) > 1 then (u6.2.2.2.2.2.2.length : Int) else 1), y21.2) with | some y30 => (match ziZ N ([[(AV.v (.string (⟨#[97, 110, 110]⟩ : ByteArray)))], [(AV.v (.string (⟨#[98, 111, 98]⟩ : ByteArray)))]], y30.2) with | some y31 => (match zx0 N (u6.2.2.2.2.2.2, y20.1, y30.1, y31.1, (i64 (u6.2.1 + y19.1))) with | some y32 => (match (y32.2 == 0) with | true => (kn (u6.1, (i64 (u6.2.1 + y19.1)), (i64 (u6.2.2.1 + 1)), y31.2.1, y31.2.2, u6.2.2.2.2.2.1, y32.1)) | false => (kn (u6.1, (i64 (u6.2.1 + y19.1)), (i64 (u6.2.2.1 + 1)), y31.2.1, y31.2.2, u6.2.2.2.2.2))) | none => none) | none => none) | none => none) | false => (match (y21.1 == 3) with | true => (match ziZ N ([[(AV.v (.string (⟨#[97, 110, 110]⟩ : ByteArray)))], [(AV.v (.string (⟨#[98, 111, 98]⟩ : ByteArray)))]], y21.2) with | some y33 => (match zx4 N (u6.2.2.2.2.2.2, y20.1, y33.1, (i64 (u6.2.1 + y19.1))) with | some y34 => (match (y34.2 == 0) with | true => (kn (u6.1, (i64 (u6.2.1 + y19.1)), (i64 (u6.2.2.1 + 1)), y33.2.1, y33.2.2, u6.2.2.2.2.2.1, y34.1)) | false => (kn (u6.1, (i64 (u6.2.1 + y19.1)), (i64 (u6.2.2.1 + 1)), y33.2.1, y33.2.2, u6.2.2.2.2.2))) | none => none) | none => none) | false => (match zi2 N (4, y21.2) with | some y35 => (match zse N (u6.2.2.2.2.2.2, y35.1, (i64 (u6.2.1 + y19.1))) with | some y36 => (match (y36.2.2 == 0) with | true => (kn (u6.1, (i64 (u6.2.1 + y19.1)), (i64 (u6.2.2.1 + 1)), y35.2.1, y35.2.2, u6.2.2.2.2.2.1, y36.1)) | false => (kn (u6.1, (i64 (u6.2.1 + y19.1)), (i64 (u6.2.2.1 + 1)), y35.2.1, y35.2.2, u6.2.2.2.2.2))) | none => none) | none => none))))) | none => none) | none => none) | none => none) | false => (ke (u6.2.1, u6.2.2.2)))
abbrev zxO (N : Nat) (x : Int × Int × Int × qL × Int × qL × qL) : Option ((Int × qL × Int × qL × qL)) := (zaQ N).L N x
def zgk (N : Nat) : FSpec where
 X := Int × qL × Int
 Y := qL × Int × qL × Int
 ash := [[none], [none]]
 bsh := [[some 1, none]]
 S := ⟨[[some 1], [none]], [[some 1, none]], [], [], []⟩
 pat := fun a b => rdA [.ptr 0 0, .int .i64] [.cells [.lst 1, .int .i64]] a b fun ⟨_, a0, _⟩ ⟨⟨a1, a2, _⟩, _⟩ => (a0, a1, a2)
 args := fun x => [(AV.ptr 0 0), (AV.v (.int .i64 x.1))]
 bs := fun x => [[(AV.list 1 x.2.1 none), (AV.v (.int .i64 x.2.2))]]
 ret := fun y => ⟨(AV.tup [(AV.agg [(AV.list 1 y.1 none)]), (AV.v (.int .i64 y.2.1))]), [[(AV.list 1 y.2.2.1 none), (AV.v (.int .i64 y.2.2.2))]], none, [], [], [], none⟩
 t := fun x α k => (match zxO N (x.1, 100, 0, x.2.1, x.2.2, ([] : qL), ([] : qL)) with | some y37 => (k (y37.2.2.2.2, y37.1, y37.2.1, y37.2.2.1)) | none => none)
abbrev zv5 (N : Nat) (x : Int × qL × Int) : Option (qL × Int × qL × Int) := (zgk N).d x
def zcT (N : Nat) : List (Nat × LSpec) := [(6, zaQ N)]
def ziU : Code := Tryz.f10.body.getD .skip
theorem zmR (N : Nat) : Par (zaQ N).b := by
 intro x α β kn ke kn' ke' r r' h h1 h2
 revert h
 dsimp only [zaQ]
 (repeat' (first | (with_reducible refine ze ?_ ?_) | split)) <;> intro h <;> first | exact h1 _ h | exact h2 _ h | cases h
theorem zkg (N : Nat) : je (zn qP) (zv6 N) zaP N (zcT N) 6 ziU (zaQ N) := fun x α kn ke => by kernel_rfl
theorem zkh (N : Nat) : ZE qP zaP N (zcT N) 6 (zc 6 ziU) :=
 zC (zd qP) (zi _) zl zaP N (zcT N) 6 ziU (l := []) (by kernel_rfl) (by kernel_rfl) an (zaQ N) rfl (fun s x hc h => by dsimp only [zaQ] at h; exact zI hc h (fun _ _ => rfl) rfl rfl rfl) (fun _ => rfl) (zkg N) (zmR N)
theorem zmS (N : Nat) : Zc (zgk N).t := by
 intro x α β k k' r r' h h1
 revert h
 dsimp only [zgk]
 (repeat' (first | (with_reducible refine ze ?_ ?_) | split)) <;> intro h <;> first | exact h1 _ h | cases h
theorem zmT (N : Nat) : Ze (zn qP) (zv6 N) zaP (lam N (zcT N)) Tryz.f10 (zgk N) := fun x => by kernel_rfl
def zAw (N : Nat) : Ent qP := zx (zd qP) (zi _) zl 10 Tryz.f10 Tryz.func10 rfl zaP (lam N (zcT N)) (zm (l := [(6, zc 6 ziU)]) (al (zkh N) an) (by kernel_rfl)) (zgk N) (fun _ => ⟨rfl, rfl⟩) (zmT N) (fun _ _ _ h => zu h (fun _ _ => rfl) (fun _ _ => rfl)) (zmS N)
def Jb : Nat -> Keep × Keep := anL [(8, qK [2, 3, 5] [] [2, 3], qK [4] [] []), (21, ⟨[2, 3, 5, 8], [], [2, 3], [(6, 29), (7, 29)], [], [], [], [], false, none, []⟩, qK [2, 3, 4, 5] [] [2, 3])]
def zx7 (N : Nat) : GamK := gam (P := qP) [zyp N]
def ZR (N : Nat) : LSpec where
 X := qL × qL × Int × Int × qL × qL
 Y := (Bool × Int × qL × qL) ⊕ (Int × qL × qL)
 p := fun s => rdS 110 0 [(6, .lst 29), (7, .lst 29), (2, .ptr 2 0), (3, .ptr 3 0), (5, .int .i64), (8, .int .i64)] [(2, .cells [.lst 1]), (3, .cells [.lst 1])] s fun ⟨a0, a1, _, _, a2, a3, _⟩ ⟨⟨a4, _⟩, ⟨a5, _⟩, _⟩ => (a0, a1, a2, a3, a4, a5)
 st := fun u21 => mkS 110 [(6, (AV.list 29 u21.1 none)), (7, (AV.list 29 u21.2.1 none)), (2, (AV.ptr 2 0)), (3, (AV.ptr 3 0)), (5, (qI u21.2.2.1)), (8, (qI u21.2.2.2.1))] [(2, [(AV.list 1 u21.2.2.2.2.1 none)]), (3, [(AV.list 1 u21.2.2.2.2.2 none)])] (Jb 21).1.toks 0
 out := fun y => match y with
  | .inl y => (.ret, mkS 110 [(2, (AV.ptr 2 0)), (3, (AV.ptr 3 0)), (4, (AV.v (.bool y.1))), (5, (qI y.2.1))] [(2, [(AV.list 1 y.2.2.1 none)]), (3, [(AV.list 1 y.2.2.2 none)])] (Jb 21).2.toks 0)
  | .inr y => (.exit 2, mkS 110 [(2, (AV.ptr 2 0)), (3, (AV.ptr 3 0)), (5, (qI y.1))] [(2, [(AV.list 1 y.2.1 none)]), (3, [(AV.list 1 y.2.2 none)])] (Jb 21).2.toks 0)
 b := fun u21 α kn ke => (match (decide (u21.2.2.2.1 < (u21.1.length : Int))) with | true => (if 0 <= u21.2.2.2.1 then (match u21.1[u21.2.2.2.1.toNat]? with | some c42 => (match (c42.drop 0)[0]? with | some x43 => (match x43 with | .v (.int q45 n44) => (if q45 = .i64 then (if 0 <= u21.2.2.2.1 then (match u21.2.1[u21.2.2.2.1.toNat]? with | some c46 => (match (c46.drop 0)[0]? with | some x47 => (match x47 with | .v (.int q49 n48) => (if q49 = .i64 then (match (n44 != n48) with | true => (ke (.inl (false, u21.2.2.1, u21.2.2.2.2))) | false => (if 0 <= u21.2.2.2.1 then (match u21.1[u21.2.2.2.1.toNat]? with | some c50 => (match (c50.drop 1)[0]? with | some x51 => (match x51 with | .v (.int q53 n52) => (if q53 = .i64 then (if 0 <= u21.2.2.2.1 then (match u21.2.1[u21.2.2.2.1.toNat]? with | some c54 => (match (c54.drop 1)[0]? with | some x55 => (match x55 with | .v (.int q57 n56) => (if q57 = .i64 then (match (n52 != n56) with | true => (ke (.inl (false, u21.2.2.1, u21.2.2.2.2))) | false => (if 0 <= u21.2.2.2.1 then (match u21.1[u21.2.2.2.1.toNat]? with | some c58 => (match (c58.drop 2)[0]? with | some x59 => (match x59 with | .v (.string s60) => (if 0 <= u21.2.2.2.1 then (match u21.2.1[u21.2.2.2.1.toNat]? with | some c61 => (match (c61.drop 2)[0]? with | some x62 => (match x62 with | .v (.string s63) => (match (!(s60.toList == s63.toList)) with | true => (ke (.inl (false, u21.2.2.1, u21.2.2.2.2))) | false => (if 0 <= u21.2.2.2.1 then (match u21.1[u21.2.2.2.1.toNat]? with | some c64 => (match (c64.drop 3)[0]? with | some x65 => (match x65 with | .v (.int q67 n66) => (if q67 = .i64 then (if 0 <= u21.2.2.2.1 then (match u21.2.1[u21.2.2.2.1.toNat]? with | some c68 => (match (c68.drop 3)[0]? with | some x69 => (match x69 with | .v (.int q71 n70) => (if q71 = .i64 then (match (n66 != n70) with | true => (ke (.inl (false, u21.2.2.1, u21.2.2.2.2))) | false => (if 0 <= u21.2.2.2.1 then (match u21.1[u21.2.2.2.1.toNat]? with | some c72 => (match zgT (c72.drop 4) with | some e73 => (if 0 <= u21.2.2.2.1 then (match u21.2.1[u21.2.2.2.1.toNat]? with | some c74 => (match zgT (c74.drop 4) with | some e75 => (match zc6 N (e73, e75) with | some y76 => (match (!y76) with | true => (ke (.inl (false, u21.2.2.1, u21.2.2.2.2))) | false => (kn (u21.1, u21.2.1, u21.2.2.1, (i64 (u21.2.2.2.1 + 1)), u21.2.2.2.2))) | none => none) | none => none) | none => none) else none) | none => none) | none => none) else none)) else none) | _ => none) | none => none) | none => none) else none) else none) | _ => none) | none => none) | none => none) else none)) | _ => none) | none => none) | none => none) else none) | _ => none) | none => none) | none => none) else none)) else none) | _ => none) | none => none) | none => none) else none) else none) | _ => none) | none => none) | none => none) else none)) else none) | _ => none) | none => none) | none => none) else none) else none) | _ => none) | none => none) | none => none) else none) | false => (ke (.inr (u21.2.2.1, u21.2.2.2.2))))
abbrev znx (N : Nat) (x : qL × qL × Int × Int × qL × qL) : Option ((Bool × Int × qL × qL) ⊕ (Int × qL × qL)) := (ZR N).L N x
def jV (N : Nat) : LSpec where
 X := Int × qL × qL
 Y := (Bool) ⊕ (Unit)
 p := fun s => rdS 110 0 [(2, .ptr 2 0), (3, .ptr 3 0), (5, .int .i64)] [(2, .cells [.lst 1]), (3, .cells [.lst 1])] s fun ⟨_, _, a0, _⟩ ⟨⟨a1, _⟩, ⟨a2, _⟩, _⟩ => (a0, a1, a2)
 st := fun u8 => mkS 110 [(2, (AV.ptr 2 0)), (3, (AV.ptr 3 0)), (5, (qI u8.1))] [(2, [(AV.list 1 u8.2.1 none)]), (3, [(AV.list 1 u8.2.2 none)])] (Jb 8).1.toks 0
 out := fun y => match y with
  | .inl y => (.ret, mkS 110 [(4, (AV.v (.bool y)))] [] (Jb 8).2.toks 0)
  | .inr y => (.exit 0, mkS 110 [] [] (Jb 8).2.toks 0)
 b := fun u8 α kn ke => (match (decide (u8.1 < (u8.2.1.length : Int))) with | true => (if 0 <= u8.1 then (match u8.2.1[u8.1.toNat]? with | some c1 => (match (c1.drop 0)[0]? with | some x2 => (match jf 29 x2 with | some l3 => (if 0 <= u8.1 then (match u8.2.2[u8.1.toNat]? with | some c4 => (match (c4.drop 0)[0]? with | some x5 => (match jf 29 x5 with | some l6 => (match ((l3.length : Int) != (l6.length : Int)) with | true => (ke (.inl false)) | false => (match znx N (l3, l6, u8.1, 0, u8.2) with | some y77 => (match y77 with | .inl z78 => (ke (.inl z78.1)) | .inr z79 => (kn ((i64 (z79.1 + 1)), z79.2))) | none => none)) | none => none) | none => none) | none => none) else none) | none => none) | none => none) | none => none) else none) | false => (ke (.inr ())))
abbrev zwm (N : Nat) (x : Int × qL × qL) : Option ((Bool) ⊕ (Unit)) := (jV N).L N x
def zd1 (N : Nat) : FSpec where
 X := qL × qL
 Y := Bool
 ash := [[some 1], [some 1]]
 S := ⟨[[none]], [], [], [], []⟩
 pat := fun a b => zj a fun v1 c2 => Z3 v1 fun c3 => zj c3 fun c4 c5 => Z1 1 c4 fun a0 => zR c5 <| zj c2 fun v6 c7 => Z3 v6 fun c8 => zj c8 fun c9 c10 => Z1 1 c9 fun a1 => zR c10 <| zR c7 <| zR b <| some (a0, a1)
 args := fun x => [(AV.agg [(AV.list 1 x.1 none)]), (AV.agg [(AV.list 1 x.2 none)])]
 ret := fun y => ⟨(AV.v (.bool y)), [], none, [], [], [], none⟩
 t := fun x α k => (match ((x.1.length : Int) != (x.2.length : Int)) with | true => (k false) | false => (match zwm N (0, x) with | some y80 => (match y80 with | .inl z81 => (k z81) | .inr z82 => (k true)) | none => none))
abbrev zx6 (N : Nat) (x : qL × qL) : Option (Bool) := (zd1 N).d x
def zbL (N : Nat) : List (Nat × LSpec) := [(8, jV N), (21, ZR N)]
def zfm : Code := Tryz.f24.body.getD .skip
theorem znz (N : Nat) : Par (ZR N).b := by
 intro x α β kn ke kn' ke' r r' h h1 h2
 revert h
 dsimp only [ZR]
 (repeat' (first | (with_reducible refine ze ?_ ?_) | split)) <;> intro h <;> first | exact h1 _ h | exact h2 _ h | cases h
theorem zko (N : Nat) : je (zn qP) (zx7 N) Jb N (zbL N) 21 zfm (ZR N) := fun x α kn ke => by kernel_rfl
theorem zey (N : Nat) : ZE qP Jb N (zbL N) 21 (zc 21 zfm) :=
 zC (zd qP) (zi _) zl Jb N (zbL N) 21 zfm (l := []) (by kernel_rfl) (by kernel_rfl) an (ZR N) rfl (fun s x hc h => by dsimp only [ZR] at h; exact zI hc h (fun _ _ => rfl) rfl rfl rfl) (fun _ => rfl) (zko N) (znz N)
theorem zrJ (N : Nat) : Par (jV N).b := by
 intro x α β kn ke kn' ke' r r' h h1 h2
 revert h
 dsimp only [jV]
 (repeat' (first | (with_reducible refine ze ?_ ?_) | split)) <;> intro h <;> first | exact h1 _ h | exact h2 _ h | cases h
theorem znw (N : Nat) : je (zn qP) (zx7 N) Jb N (zbL N) 8 zfm (jV N) := fun x α kn ke => by kernel_rfl
theorem zny (N : Nat) : ZE qP Jb N (zbL N) 8 (zc 8 zfm) :=
 zC (zd qP) (zi _) zl Jb N (zbL N) 8 zfm (l := [(21, zc 21 zfm)]) (by kernel_rfl) (by kernel_rfl) (al (zey N) an) (jV N) rfl (fun s x hc h => by dsimp only [jV] at h; exact zI hc h (fun _ _ => rfl) rfl rfl rfl) (fun _ => rfl) (znw N) (zrJ N)
theorem zrK (N : Nat) : Zc (zd1 N).t := by
 intro x α β k k' r r' h h1
 revert h
 dsimp only [zd1]
 (repeat' (first | (with_reducible refine ze ?_ ?_) | split)) <;> intro h <;> first | exact h1 _ h | cases h
theorem zrL (N : Nat) : Ze (zn qP) (zx7 N) Jb (lam N (zbL N)) Tryz.f24 (zd1 N) := fun x => by kernel_rfl
theorem zx8 (N : Nat) (a : List AV) (b : qL) (x : (zd1 N).X) (h : (zd1 N).pat a b = some x) : a = (zd1 N).args x /\ b = (zd1 N).bs x := by
 obtain ⟨v1, c2, rfl, g0⟩ := zb (show zj _ _ = some x from h)
 obtain ⟨c3, rfl, g1⟩ := zO g0; clear g0
 obtain ⟨c4, c5, rfl, g2⟩ := zb g1; clear g1
 obtain ⟨a0, rfl, g3⟩ := zq g2; clear g2
 obtain ⟨rfl, g4⟩ := zg g3; clear g3
 obtain ⟨v6, c7, rfl, g5⟩ := zb g4; clear g4
 obtain ⟨c8, rfl, g6⟩ := zO g5; clear g5
 obtain ⟨c9, c10, rfl, g7⟩ := zb g6; clear g6
 obtain ⟨a1, rfl, g8⟩ := zq g7; clear g7
 obtain ⟨rfl, g9⟩ := zg g8; clear g8
 obtain ⟨rfl, g10⟩ := zg g9; clear g9
 obtain ⟨rfl, g11⟩ := zg g10; clear g10
 clear h
 cases g11
 exact ⟨rfl, rfl⟩
def zDw (N : Nat) : Ent qP := zx (zd qP) (zi _) zl 24 Tryz.f24 Tryz.func24 rfl Jb (lam N (zbL N)) (zm (l := [(8, zc 8 zfm), (21, zc 21 zfm)]) (al (zny N) (al (zey N) an)) (by kernel_rfl)) (zd1 N) (fun _ => ⟨rfl, rfl⟩) (zrL N) (zx8 N) (zrK N)
def zbN : Nat -> Keep × Keep := anL [(8, ⟨[5], [], [], [(0, 25), (1, 25)], [], [], [], [], false, none, []⟩, qK [4] [] [])]
def zAY (N : Nat) : GamK := gam (P := qP) [zBl N]
def jE (N : Nat) : LSpec where
 X := qL × qL × Int
 Y := (Bool) ⊕ (Unit)
 p := fun s => rdS 42 0 [(0, .lst 25), (1, .lst 25), (5, .int .i64)] [] s fun ⟨a0, a1, a2, _⟩ _ => (a0, a1, a2)
 st := fun u8 => mkS 42 [(0, (AV.list 25 u8.1 none)), (1, (AV.list 25 u8.2.1 none)), (5, (qI u8.2.2))] [] (zbN 8).1.toks 0
 out := fun y => match y with
  | .inl y => (.ret, mkS 42 [(4, (AV.v (.bool y)))] [] (zbN 8).2.toks 0)
  | .inr y => (.exit 0, mkS 42 [] [] (zbN 8).2.toks 0)
 b := fun u8 α kn ke => (match (decide (u8.2.2 < (u8.1.length : Int))) with | true => (if 0 <= u8.2.2 then (match u8.1[u8.2.2.toNat]? with | some c1 => (match Jv (c1.drop 0) with | some e2 => (if 0 <= u8.2.2 then (match u8.2.1[u8.2.2.toNat]? with | some c3 => (match Jv (c3.drop 0) with | some e4 => (match (!(((e2.1 == e4.1) && ((e2.2.1 == e4.2.1) && ((e2.2.2.1 == e4.2.2.1) && ((e2.2.2.2.1 == e4.2.2.2.1) && true)))) && ((e2.2.2.2.2.1 == e4.2.2.2.2.1) && ((e2.2.2.2.2.2.1 == e4.2.2.2.2.2.1) && ((e2.2.2.2.2.2.2.1 == e4.2.2.2.2.2.2.1) && ((e2.2.2.2.2.2.2.2.1 == e4.2.2.2.2.2.2.2.1) && ((e2.2.2.2.2.2.2.2.2.1 == e4.2.2.2.2.2.2.2.2.1) && true))))))) with | true => (ke (.inl false)) | false => (if 0 <= u8.2.2 then (match u8.1[u8.2.2.toNat]? with | some c5 => (match zEz (c5.drop 9) with | some e6 => (if 0 <= u8.2.2 then (match u8.2.1[u8.2.2.toNat]? with | some c7 => (match zEz (c7.drop 9) with | some e8 => (match zs2 N (e6, e8) with | some y9 => (match (!y9) with | true => (ke (.inl false)) | false => (kn (u8.1, u8.2.1, (i64 (u8.2.2 + 1))))) | none => none) | none => none) | none => none) else none) | none => none) | none => none) else none)) | none => none) | none => none) else none) | none => none) | none => none) else none) | false => (ke (.inr ())))
abbrev zwr (N : Nat) (x : qL × qL × Int) : Option ((Bool) ⊕ (Unit)) := (jE N).L N x
def zkC (N : Nat) : FSpec where
 X := qL × qL
 Y := Bool
 ash := [[some 25], [some 25]]
 S := ⟨[[none]], [], [], [], []⟩
 pat := fun a b => rdA [.lst 25, .lst 25] [] a b fun ⟨a0, a1, _⟩ _ => (a0, a1)
 args := fun x => [(AV.list 25 x.1 none), (AV.list 25 x.2 none)]
 ret := fun y => ⟨(AV.v (.bool y)), [], none, [], [], [], none⟩
 t := fun x α k => (match ((x.1.length : Int) != (x.2.length : Int)) with | true => (k false) | false => (match zwr N (x.1, x.2, 0) with | some y10 => (match y10 with | .inl z11 => (k z11) | .inr z12 => (k true)) | none => none))
abbrev zhL (N : Nat) (x : qL × qL) : Option (Bool) := (zkC N).d x
def zgx (N : Nat) : List (Nat × LSpec) := [(8, jE N)]
def zrW : Code := Tryz.f29.body.getD .skip
theorem zrX (N : Nat) : Par (jE N).b := by
 intro x α β kn ke kn' ke' r r' h h1 h2
 revert h
 dsimp only [jE]
 (repeat' (first | (with_reducible refine ze ?_ ?_) | split)) <;> intro h <;> first | exact h1 _ h | exact h2 _ h | cases h
theorem znR (N : Nat) : je (zn qP) (zAY N) zbN N (zgx N) 8 zrW (jE N) := fun x α kn ke => by kernel_rfl
theorem znS (N : Nat) : ZE qP zbN N (zgx N) 8 (zc 8 zrW) :=
 zC (zd qP) (zi _) zl zbN N (zgx N) 8 zrW (l := []) (by kernel_rfl) (by kernel_rfl) an (jE N) rfl (fun s x hc h => by dsimp only [jE] at h; exact zI hc h (fun _ _ => rfl) rfl rfl rfl) (fun _ => rfl) (znR N) (zrX N)
theorem zrY (N : Nat) : Zc (zkC N).t := by
 intro x α β k k' r r' h h1
 revert h
 dsimp only [zkC]
 (repeat' (first | (with_reducible refine ze ?_ ?_) | split)) <;> intro h <;> first | exact h1 _ h | cases h
theorem zrZ (N : Nat) : Ze (zn qP) (zAY N) zbN (lam N (zgx N)) Tryz.f29 (zkC N) := fun x => by kernel_rfl
def zDy (N : Nat) : Ent qP := zx (zd qP) (zi _) zl 29 Tryz.f29 Tryz.func29 rfl zbN (lam N (zgx N)) (zm (l := [(8, zc 8 zrW)]) (al (znS N) an) (by kernel_rfl)) (zkC N) (fun _ => ⟨rfl, rfl⟩) (zrZ N) (fun _ _ _ h => zu h (fun _ _ => rfl) (fun _ _ => rfl)) (zrY N)
def zwg : Nat -> Keep × Keep := anL []
def zDl (N : Nat) : GamK := gam (P := qP) [zsv N]
def zfg (N : Nat) : FSpec where
 X := qL × Int × ByteArray × Int
 Y := qL × Int
 ash := [[some 1], [none], [none], [none]]
 S := ⟨[[some 1], [none]], [], [], [], []⟩
 pat := fun a b => zj a fun v1 c2 => Z3 v1 fun c3 => zj c3 fun c4 c5 => Z1 1 c4 fun a0 => zR c5 <| zj c2 fun v6 c7 => jQ .i64 v6 fun a1 => zj c7 fun v8 c9 => zmh v8 fun a2 => zj c9 fun v10 c11 => jQ .i64 v10 fun a3 => zR c11 <| zR b <| some (a0, a1, a2, a3)
 args := fun x => [(AV.agg [(AV.list 1 x.1 none)]), (AV.v (.int .i64 x.2.1)), (AV.v (.string x.2.2.1)), (AV.v (.int .i64 x.2.2.2))]
 ret := fun y => ⟨(AV.tup [(AV.agg [(AV.list 1 y.1 none)]), (AV.v (.int .i64 y.2))]), [], none, [], [], [], none⟩
 t := fun x α k => (match Jy N (x.1, x.2.1, (4, x.2.2.2, x.2.2.1, 0, (⟨#[]⟩ : ByteArray), (⟨#[]⟩ : ByteArray), (⟨#[]⟩ : ByteArray), (⟨#[]⟩ : ByteArray), 0, 0, 0, 0, 0, ([] : qL), 0, 0, 0, 0, 0, 0, 0, 0, 0, 0, 0, 0, 0, 0, 0, ())) with | some y1 => (k y1) | none => none)
abbrev zxU (N : Nat) (x : qL × Int × ByteArray × Int) : Option (qL × Int) := (zfg N).d x
theorem zrx (N : Nat) : Zc (zfg N).t := by
 intro x α β k k' r r' h h1
 revert h
 dsimp only [zfg]
 (repeat' (first | (with_reducible refine ze ?_ ?_) | split)) <;> intro h <;> first | exact h1 _ h | cases h
theorem zry (N : Nat) : Ze (zn qP) (zDl N) zwg (lam N []) Tryz.f18 (zfg N) := fun x => by kernel_rfl
theorem zxV (N : Nat) (a : List AV) (b : qL) (x : (zfg N).X) (h : (zfg N).pat a b = some x) : a = (zfg N).args x /\ b = (zfg N).bs x := by
 obtain ⟨v1, c2, rfl, g0⟩ := zb (show zj _ _ = some x from h)
 obtain ⟨c3, rfl, g1⟩ := zO g0; clear g0
 obtain ⟨c4, c5, rfl, g2⟩ := zb g1; clear g1
 obtain ⟨a0, rfl, g3⟩ := zq g2; clear g2
 obtain ⟨rfl, g4⟩ := zg g3; clear g3
 obtain ⟨v6, c7, rfl, g5⟩ := zb g4; clear g4
 obtain ⟨a1, rfl, g6⟩ := zA g5; clear g5
 obtain ⟨v8, c9, rfl, g7⟩ := zb g6; clear g6
 obtain ⟨a2, rfl, g8⟩ := JS g7; clear g7
 obtain ⟨v10, c11, rfl, g9⟩ := zb g8; clear g8
 obtain ⟨a3, rfl, g10⟩ := zA g9; clear g9
 obtain ⟨rfl, g11⟩ := zg g10; clear g10
 obtain ⟨rfl, g12⟩ := zg g11; clear g11
 clear h
 cases g12
 exact ⟨rfl, rfl⟩
def zDk (N : Nat) : Ent qP := zx (zd qP) (zi _) zl 18 Tryz.f18 Tryz.func18 rfl zwg (lam N []) (zm (l := []) an (by kernel_rfl)) (zfg N) (fun _ => ⟨rfl, rfl⟩) (zry N) (zxV N) (zrx N)
def zwi : Nat -> Keep × Keep := anL []
def zDp (N : Nat) : GamK := gam (P := qP) [zsv N]
def zfi (N : Nat) : FSpec where
 X := qL × Int × Int × ByteArray × Int
 Y := qL × Int
 ash := [[some 1], [none], [none], [none], [none]]
 S := ⟨[[some 1], [none]], [], [], [], []⟩
 pat := fun a b => zj a fun v1 c2 => Z3 v1 fun c3 => zj c3 fun c4 c5 => Z1 1 c4 fun a0 => zR c5 <| zj c2 fun v6 c7 => jQ .i64 v6 fun a1 => zj c7 fun v8 c9 => jQ .i64 v8 fun a2 => zj c9 fun v10 c11 => zmh v10 fun a3 => zj c11 fun v12 c13 => jQ .i64 v12 fun a4 => zR c13 <| zR b <| some (a0, a1, a2, a3, a4)
 args := fun x => [(AV.agg [(AV.list 1 x.1 none)]), (AV.v (.int .i64 x.2.1)), (AV.v (.int .i64 x.2.2.1)), (AV.v (.string x.2.2.2.1)), (AV.v (.int .i64 x.2.2.2.2))]
 ret := fun y => ⟨(AV.tup [(AV.agg [(AV.list 1 y.1 none)]), (AV.v (.int .i64 y.2))]), [], none, [], [], [], none⟩
 t := fun x α k => (match Jy N (x.1, x.2.1, (5, x.2.2.2.2, x.2.2.2.1, x.2.2.1, (⟨#[]⟩ : ByteArray), (⟨#[]⟩ : ByteArray), (⟨#[]⟩ : ByteArray), (⟨#[]⟩ : ByteArray), 0, 0, 0, 0, 0, ([] : qL), 0, 0, 0, 0, 0, 0, 0, 0, 0, 0, 0, 0, 0, 0, 0, ())) with | some y1 => (k y1) | none => none)
abbrev zxY (N : Nat) (x : qL × Int × Int × ByteArray × Int) : Option (qL × Int) := (zfi N).d x
theorem zrB (N : Nat) : Zc (zfi N).t := by
 intro x α β k k' r r' h h1
 revert h
 dsimp only [zfi]
 (repeat' (first | (with_reducible refine ze ?_ ?_) | split)) <;> intro h <;> first | exact h1 _ h | cases h
theorem zrC (N : Nat) : Ze (zn qP) (zDp N) zwi (lam N []) Tryz.f20 (zfi N) := fun x => by kernel_rfl
theorem zxZ (N : Nat) (a : List AV) (b : qL) (x : (zfi N).X) (h : (zfi N).pat a b = some x) : a = (zfi N).args x /\ b = (zfi N).bs x := by
 obtain ⟨v1, c2, rfl, g0⟩ := zb (show zj _ _ = some x from h)
 obtain ⟨c3, rfl, g1⟩ := zO g0; clear g0
 obtain ⟨c4, c5, rfl, g2⟩ := zb g1; clear g1
 obtain ⟨a0, rfl, g3⟩ := zq g2; clear g2
 obtain ⟨rfl, g4⟩ := zg g3; clear g3
 obtain ⟨v6, c7, rfl, g5⟩ := zb g4; clear g4
 obtain ⟨a1, rfl, g6⟩ := zA g5; clear g5
 obtain ⟨v8, c9, rfl, g7⟩ := zb g6; clear g6
 obtain ⟨a2, rfl, g8⟩ := zA g7; clear g7
 obtain ⟨v10, c11, rfl, g9⟩ := zb g8; clear g8
 obtain ⟨a3, rfl, g10⟩ := JS g9; clear g9
 obtain ⟨v12, c13, rfl, g11⟩ := zb g10; clear g10
 obtain ⟨a4, rfl, g12⟩ := zA g11; clear g11
 obtain ⟨rfl, g13⟩ := zg g12; clear g12
 obtain ⟨rfl, g14⟩ := zg g13; clear g13
 clear h
 cases g14
 exact ⟨rfl, rfl⟩
def zDo (N : Nat) : Ent qP := zx (zd qP) (zi _) zl 20 Tryz.f20 Tryz.func20 rfl zwi (lam N []) (zm (l := []) an (by kernel_rfl)) (zfi N) (fun _ => ⟨rfl, rfl⟩) (zrC N) (zxZ N) (zrB N)
def zwk : Nat -> Keep × Keep := anL []
def zDt (N : Nat) : GamK := gam (P := qP) [zsv N]
def zfk (N : Nat) : FSpec where
 X := qL × Int × ByteArray × Int
 Y := qL × Int
 ash := [[some 1], [none], [none], [none]]
 S := ⟨[[some 1], [none]], [], [], [], []⟩
 pat := fun a b => zj a fun v1 c2 => Z3 v1 fun c3 => zj c3 fun c4 c5 => Z1 1 c4 fun a0 => zR c5 <| zj c2 fun v6 c7 => jQ .i64 v6 fun a1 => zj c7 fun v8 c9 => zmh v8 fun a2 => zj c9 fun v10 c11 => jQ .i64 v10 fun a3 => zR c11 <| zR b <| some (a0, a1, a2, a3)
 args := fun x => [(AV.agg [(AV.list 1 x.1 none)]), (AV.v (.int .i64 x.2.1)), (AV.v (.string x.2.2.1)), (AV.v (.int .i64 x.2.2.2))]
 ret := fun y => ⟨(AV.tup [(AV.agg [(AV.list 1 y.1 none)]), (AV.v (.int .i64 y.2))]), [], none, [], [], [], none⟩
 t := fun x α k => (match Jy N (x.1, x.2.1, (6, x.2.2.2, x.2.2.1, 0, (⟨#[]⟩ : ByteArray), (⟨#[]⟩ : ByteArray), (⟨#[]⟩ : ByteArray), (⟨#[]⟩ : ByteArray), 0, 0, 0, 0, 0, ([] : qL), 0, 0, 0, 0, 0, 0, 0, 0, 0, 0, 0, 0, 0, 0, 0, ())) with | some y1 => (k y1) | none => none)
abbrev zx2 (N : Nat) (x : qL × Int × ByteArray × Int) : Option (qL × Int) := (zfk N).d x
theorem zrF (N : Nat) : Zc (zfk N).t := by
 intro x α β k k' r r' h h1
 revert h
 dsimp only [zfk]
 (repeat' (first | (with_reducible refine ze ?_ ?_) | split)) <;> intro h <;> first | exact h1 _ h | cases h
theorem zrG (N : Nat) : Ze (zn qP) (zDt N) zwk (lam N []) Tryz.f22 (zfk N) := fun x => by kernel_rfl
theorem zx3 (N : Nat) (a : List AV) (b : qL) (x : (zfk N).X) (h : (zfk N).pat a b = some x) : a = (zfk N).args x /\ b = (zfk N).bs x := by
 obtain ⟨v1, c2, rfl, g0⟩ := zb (show zj _ _ = some x from h)
 obtain ⟨c3, rfl, g1⟩ := zO g0; clear g0
 obtain ⟨c4, c5, rfl, g2⟩ := zb g1; clear g1
 obtain ⟨a0, rfl, g3⟩ := zq g2; clear g2
 obtain ⟨rfl, g4⟩ := zg g3; clear g3
 obtain ⟨v6, c7, rfl, g5⟩ := zb g4; clear g4
 obtain ⟨a1, rfl, g6⟩ := zA g5; clear g5
 obtain ⟨v8, c9, rfl, g7⟩ := zb g6; clear g6
 obtain ⟨a2, rfl, g8⟩ := JS g7; clear g7
 obtain ⟨v10, c11, rfl, g9⟩ := zb g8; clear g8
 obtain ⟨a3, rfl, g10⟩ := zA g9; clear g9
 obtain ⟨rfl, g11⟩ := zg g10; clear g10
 obtain ⟨rfl, g12⟩ := zg g11; clear g11
 clear h
 cases g12
 exact ⟨rfl, rfl⟩
def zDs (N : Nat) : Ent qP := zx (zd qP) (zi _) zl 22 Tryz.f22 Tryz.func22 rfl zwk (lam N []) (zm (l := []) an (by kernel_rfl)) (zfk N) (fun _ => ⟨rfl, rfl⟩) (zrG N) (zx3 N) (zrF N)
def zgI : Nat -> Keep × Keep := anL [(29, qK [4, 6, 7, 103, 104] [] [4, 7], qK [2, 4, 6, 7] [] [4, 7])]
def zEW (N : Nat) : GamK := gam (P := qP) [F9_e N, zcW N, zAw N, zAV N, zAU N, F8_e N, zrS N, zDw N, zAZ N, zDy N, zDk N, zDo N, zDs N, zwp N, zAW N]
def jX (N : Nat) : LSpec where
 X := Int × Int × Int × qL × qL
 Y := (Bool × Int × qL × qL) ⊕ (Int × qL × qL)
 p := fun s => rdS 158 0 [(4, .ptr 4 0), (6, .int .i64), (7, .ptr 7 0), (103, .int .i64), (104, .int .i64)] [(4, .cells [.lst 1]), (7, .cells [.lst 1])] s fun ⟨_, a0, _, a1, a2, _⟩ ⟨⟨a3, _⟩, ⟨a4, _⟩, _⟩ => (a0, a1, a2, a3, a4)
 st := fun u29 => mkS 158 [(4, (AV.ptr 4 0)), (6, (qI u29.1)), (7, (AV.ptr 7 0)), (103, (qI u29.2.1)), (104, (qI u29.2.2.1))] [(4, [(AV.list 1 u29.2.2.2.1 none)]), (7, [(AV.list 1 u29.2.2.2.2 none)])] (zgI 29).1.toks 0
 out := fun y => match y with
  | .inl y => (.ret, mkS 158 [(2, (AV.v (.bool y.1))), (4, (AV.ptr 4 0)), (6, (qI y.2.1)), (7, (AV.ptr 7 0))] [(4, [(AV.list 1 y.2.2.1 none)]), (7, [(AV.list 1 y.2.2.2 none)])] (zgI 29).2.toks 0)
  | .inr y => (.exit 1, mkS 158 [(4, (AV.ptr 4 0)), (6, (qI y.1)), (7, (AV.ptr 7 0))] [(4, [(AV.list 1 y.2.1 none)]), (7, [(AV.list 1 y.2.2 none)])] (zgI 29).2.toks 0)
 b := fun u29 α kn ke => (match (decide (u29.2.2.1 < u29.2.1)) with | true => (if 0 <= u29.2.2.1 then (match u29.2.2.2.1[u29.2.2.1.toNat]? with | some c21 => (match (c21.drop 0)[0]? with | some x22 => (match jf 29 x22 with | some l23 => (if 0 <= u29.2.2.1 then (match u29.2.2.2.2[u29.2.2.1.toNat]? with | some c24 => (match (c24.drop 0)[0]? with | some x25 => (match jf 29 x25 with | some l26 => (match (decide ((l26.length : Int) < (l23.length : Int))) with | true => (ke (.inl (false, u29.1, u29.2.2.2))) | false => (if 0 <= u29.2.2.1 then (match u29.2.2.2.2[u29.2.2.1.toNat]? with | some c27 => (match (c27.drop 0)[0]? with | some x28 => (match jf 29 x28 with | some l29 => (if 0 <= (l23.length : Int) /\ (l23.length : Int) <= l29.length then (if 0 <= u29.2.2.1 /\ u29.2.2.1 <= (i64 (u29.2.2.1 + 1)) /\ (i64 (u29.2.2.1 + 1)) <= u29.2.2.2.1.length then (match zx6 N ([[(AV.list 29 (l29.take (l23.length : Int).toNat) none)]], ((u29.2.2.2.1.take (i64 (u29.2.2.1 + 1)).toNat).drop u29.2.2.1.toNat)) with | some y30 => (match (!y30) with | true => (ke (.inl (false, u29.1, u29.2.2.2))) | false => (kn (u29.1, u29.2.1, (i64 (u29.2.2.1 + 1)), u29.2.2.2))) | none => none) else none) else none) | none => none) | none => none) | none => none) else none)) | none => none) | none => none) | none => none) else none) | none => none) | none => none) | none => none) else none) | false => (ke (.inr (u29.1, u29.2.2.2))))
abbrev zeG (N : Nat) (x : Int × Int × Int × qL × qL) : Option ((Bool × Int × qL × qL) ⊕ (Int × qL × qL)) := (jX N).L N x
def zAa (N : Nat) : FSpec where
 X := qL
 Y := Bool
 ash := [[some 1]]
 S := ⟨[[none]], [], [], [], []⟩
 pat := fun a b => rdA [.lst 1] [] a b fun ⟨a0, _⟩ _ => a0
 args := fun x => [(AV.list 1 x none)]
 ret := fun y => ⟨(AV.v (.bool y)), [], none, [], [], [], none⟩
 t := fun x α k => (match zEv N x with | some y1 => (match ZG N (8, y1) with | some y2 => (match zv5 N y2 with | some y3 => (match ZG N (50, y3.2.2) with | some y4 => (match ZG N ((if (y3.1.length : Int) > 1 then (y3.1.length : Int) else 1), y4.2) with | some y5 => (match ZG N (5, y5.2) with | some y6 => (match (y6.1 == 0) with | true => (match zrM N () with | some y7 => (match zrs N (y3.1, y5.1, (⟨#[97, 110, 110]⟩ : ByteArray), y7, (i64 ((i64 (y3.2.1 + 1)) + y4.1))) with | some y8 => (match (y8.2 != 0) with | true => (match ((y8.1.length : Int) == 0) with | true => (match zpQ N () with | some y9 => (k y9) | none => none) | false => (k false)) | false => (match zcZ N y8.1 with | some y10 => (match (!y10) with | true => (k false) | false => (match (decide ((y8.1.length : Int) < (y3.1.length : Int))) with | true => (k false) | false => (match zeG N ((i64 ((i64 (y3.2.1 + 1)) + y4.1)), (y3.1.length : Int), 0, y3.1, y8.1) with | some y31 => (match y31 with | .inl z32 => (k z32.1) | .inr z33 => (match zax N (z33.2.2, (i64 (z33.1 - 1))) with | some y34 => (match zax N (z33.2.1, (i64 (z33.1 - 1))) with | some y35 => (match zhL N (y34, y35) with | some y36 => (match y36 with | true => (match zpQ N () with | some y37 => (k y37) | none => none) | false => (k false)) | none => none) | none => none) | none => none)) | none => none))) | none => none)) | none => none) | none => none) | false => (match (y6.1 == 1) with | true => (match zxU N (y3.1, y5.1, (⟨#[98, 111, 98]⟩ : ByteArray), (i64 ((i64 (y3.2.1 + 1)) + y4.1))) with | some y38 => (match (y38.2 != 0) with | true => (match ((y38.1.length : Int) == 0) with | true => (match zpQ N () with | some y39 => (k y39) | none => none) | false => (k false)) | false => (match zcZ N y38.1 with | some y40 => (match (!y40) with | true => (k false) | false => (match (decide ((y38.1.length : Int) < (y3.1.length : Int))) with | true => (k false) | false => (match zeG N ((i64 ((i64 (y3.2.1 + 1)) + y4.1)), (y3.1.length : Int), 0, y3.1, y38.1) with | some y41 => (match y41 with | .inl z42 => (k z42.1) | .inr z43 => (match zax N (z43.2.2, (i64 (z43.1 - 1))) with | some y44 => (match zax N (z43.2.1, (i64 (z43.1 - 1))) with | some y45 => (match zhL N (y44, y45) with | some y46 => (match y46 with | true => (match zpQ N () with | some y47 => (k y47) | none => none) | false => (k false)) | none => none) | none => none) | none => none)) | none => none))) | none => none)) | none => none) | false => (match (y6.1 == 2) with | true => (match zxY N (y3.1, y5.1, 0, (⟨#[97, 110, 110]⟩ : ByteArray), (i64 ((i64 (y3.2.1 + 1)) + y4.1))) with | some y48 => (match (y48.2 != 0) with | true => (match ((y48.1.length : Int) == 0) with | true => (match zpQ N () with | some y49 => (k y49) | none => none) | false => (k false)) | false => (match zcZ N y48.1 with | some y50 => (match (!y50) with | true => (k false) | false => (match (decide ((y48.1.length : Int) < (y3.1.length : Int))) with | true => (k false) | false => (match zeG N ((i64 ((i64 (y3.2.1 + 1)) + y4.1)), (y3.1.length : Int), 0, y3.1, y48.1) with | some y51 => (match y51 with | .inl z52 => (k z52.1) | .inr z53 => (match zax N (z53.2.2, (i64 (z53.1 - 1))) with | some y54 => (match zax N (z53.2.1, (i64 (z53.1 - 1))) with | some y55 => (match zhL N (y54, y55) with | some y56 => (match y56 with | true => (match zpQ N () with | some y57 => (k y57) | none => none) | false => (k false)) | none => none) | none => none) | none => none)) | none => none))) | none => none)) | none => none) | false => (match (y6.1 == 3) with | true => (match zx2 N (y3.1, y5.1, (⟨#[98, 111, 98]⟩ : ByteArray), (i64 ((i64 (y3.2.1 + 1)) + y4.1))) with | some y58 => (match (y58.2 != 0) with | true => (match ((y58.1.length : Int) == 0) with | true => (match zpQ N () with | some y59 => (k y59) | none => none) | false => (k false)) | false => (match zcZ N y58.1 with | some y60 => (match (!y60) with | true => (k false) | false => (match (decide ((y58.1.length : Int) < (y3.1.length : Int))) with | true => (k false) | false => (match zeG N ((i64 ((i64 (y3.2.1 + 1)) + y4.1)), (y3.1.length : Int), 0, y3.1, y58.1) with | some y61 => (match y61 with | .inl z62 => (k z62.1) | .inr z63 => (match zax N (z63.2.2, (i64 (z63.1 - 1))) with | some y64 => (match zax N (z63.2.1, (i64 (z63.1 - 1))) with | some y65 => (match zhL N (y64, y65) with | some y66 => (match y66 with | true => (match zpQ N () with | some y67 => (k y67) | none => none) | false => (k false)) | none => none) | none => none) | none => none)) | none => none))) | none => none)) | none => none) | false => (match zi2 N (4, y6.2) with | some y68 => (match zku N (y3.1, y68.1, (i64 ((i64 (y3.2.1 + 1)) + y4.1))) with | some y69 => (match (y69.2.2 != 0) with | true => (match ((y69.1.length : Int) == 0) with | true => (match zpQ N () with | some y70 => (k y70) | none => none) | false => (k false)) | false => (match zcZ N y69.1 with | some y71 => (match (!y71) with | true => (k false) | false => (match (decide ((y69.1.length : Int) < (y3.1.length : Int))) with | true => (k false) | false => (match zeG N ((i64 ((i64 (y3.2.1 + 1)) + y4.1)), (y3.1.length : Int), 0, y3.1, y69.1) with | some y72 => (match y72 with | .inl z73 => (k z73.1) | .inr z74 => (match zax N (z74.2.2, (i64 (z74.1 - 1))) with | some y75 => (match zax N (z74.2.1, (i64 (z74.1 - 1))) with | some y76 => (match zhL N (y75, y76) with | some y77 => (match y77 with | true => (match zpQ N () with | some y78 => (k y78) | none => none) | false => (k false)) | none => none) | none => none) | none => none)) | none => none))) | none => none)) | none => none) | none => none))))) | none => none) | none => none) | none => none) | none => none) | none => none) | none => none)
abbrev zEV (N : Nat) (x : qL) : Option (Bool) := (zAa N).d x
def zoF (N : Nat) : List (Nat × LSpec) := [(29, jX N)]
def zC0 : Code := Tryz.f4.body.getD .skip
theorem zsH (N : Nat) : Par (jX N).b := by
 intro x α β kn ke kn' ke' r r' h h1 h2
 revert h
 dsimp only [jX]
 (repeat' (first | (with_reducible refine ze ?_ ?_) | split)) <;> intro h <;> first | exact h1 _ h | exact h2 _ h | cases h
theorem zoD (N : Nat) : je (zn qP) (zEW N) zgI N (zoF N) 29 zC0 (jX N) := fun x α kn ke => by kernel_rfl
theorem zoE (N : Nat) : ZE qP zgI N (zoF N) 29 (zc 29 zC0) :=
 zC (zd qP) (zi _) zl zgI N (zoF N) 29 zC0 (l := []) (by kernel_rfl) (by kernel_rfl) an (jX N) rfl (fun s x hc h => by dsimp only [jX] at h; exact zI hc h (fun _ _ => rfl) rfl rfl rfl) (fun _ => rfl) (zoD N) (zsH N)
theorem zyq (N : Nat) : Zc (zAa N).t := by
 intro x α β k k' r r' h h1
 revert h
 dsimp only [zAa]
 (repeat' (first | (with_reducible refine ze ?_ ?_) | split)) <;> intro h <;> first | exact h1 _ h | cases h
theorem zyr (N : Nat) : Ze (zn qP) (zEW N) zgI (lam N (zoF N)) Tryz.f4 (zAa N) := fun x => by kernel_rfl
def F4_e (N : Nat) : Ent qP := zx (zd qP) (zi _) zl 4 Tryz.f4 Tryz.func4 rfl zgI (lam N (zoF N)) (zm (l := [(29, zc 29 zC0)]) (al (zoE N) an) (by kernel_rfl)) (zAa N) (fun _ => ⟨rfl, rfl⟩) (zyr N) (fun _ _ _ h => zu h (fun _ _ => rfl) (fun _ _ => rfl)) (zyq N)
end
end Go.Proofs.YthdgnfcbehcplaaGreatDoor
end
section
namespace Go.Proofs.YthdgnfcbehcplaaGreatDoor
theorem dF {p : Prop} [Decidable p] (h : ¬ p) : decide p = false := decide_eq_false h
theorem dT {p : Prop} [Decidable p] (h : p) : decide p = true := decide_eq_true h
theorem pS {d f : Nat} (h : d < f) : ∃ f', f = f' + 1 := ⟨f - 1, by omega⟩
def zF (xs : List Int) : List (List AV) := xs.map fun x => [I x]
theorem Zr {x : Int} (h : -9223372036854775808 <= x /\ x <= 9223372036854775807) : i64 x = x := IntWalk.i64_in _ (by omega)
theorem Ja (xs : List Int) : (zF xs).length = xs.length := by simp [zF]
theorem zdQ (xs : List Int) (k : Nat) (h : k < xs.length) : (zF xs)[k]? = some [I xs[k]] := by simp [zF, h]
structure Sc (xs : List Int) (p : Int) : Prop where
 l : xs.length <= 2000
 p0 : 0 <= p
 p1 : p <= xs.length
theorem zCN (N : Nat) {xs : List Int} {p : Int} (D : Sc xs p) : ∃ v p', zyk N (zF xs, p) = some (v, zF xs, p') /\ Sc xs p' := by
 obtain ⟨l, p0, p1⟩ := D
 simp only [zyk, FSpec.d, zA8]
 by_cases h : p >= ((zF xs).length : Int)
 ·simp only [h, decide_true]
  exact ⟨0, p, rfl, ⟨l, p0, p1⟩⟩
 ·have h0 := h
  rw [Ja] at h0
  have h2 : p.toNat < xs.length := by omega
  have hp : i64 (p + 1) = p + 1 := Zr (by omega)
  have hq : i64 (p + 1 - 1) = p := by rw [Zr (by omega)]; omega
  simp only [h, decide_false, hp, hq, p0, if_true, zdQ xs _ h2, List.getElem?_cons_zero]
  exact ⟨_, _, rfl, ⟨l, by omega, by omega⟩⟩
theorem zCy (N : Nat) (v : Int) {n : Int} (hn : 1 <= n /\ n <= 1000000) : ∃ r, zog N (v, n) = some r /\ 0 <= r /\ r < n := by
 simp only [zog, FSpec.d, zkP]
 have h1 : ¬ n < 1 := by omega
 have h3 : ¬ n = 0 := by omega
 simp only [h1, decide_false, h3, if_false]
 by_cases hneg : v.tmod n < 0
 ·simp only [hneg, decide_true]
  have t1 : -n < v.tmod n := by
   have := Int.tmod_lt_of_pos (-v) (show 0 < n by omega)
   rw [Int.neg_tmod] at this
   omega
  rw [Zr (by omega)]
  exact ⟨_, rfl, by omega, by omega⟩
 ·simp only [hneg, decide_false]
  have t1 := Int.tmod_lt_of_pos v (show 0 < n by omega)
  exact ⟨_, rfl, by omega, by omega⟩
theorem zcF (N : Nat) {n : Int} {xs : List Int} {p : Int} (hn : 1 <= n /\ n <= 1000000) (D : Sc xs p) : ∃ v p', jU N (n, zF xs, p) = some (v, zF xs, p') /\ (0 <= v /\ v < n) /\ Sc xs p' := by
 obtain ⟨v, p', h1, h2⟩ := zCN N D
 obtain ⟨r, h3, h4⟩ := zCy N v hn
 refine ⟨r, p', ?_, h4, h2⟩
 simp only [jU, FSpec.d, zAK]
 simp only [h1, h3]
theorem zzP (N : Nat) (O : List Int) {xs : List Int} {p : Int} (hO : 1 <= O.length /\ O.length <= 1000) (D : Sc xs p) : ∃ v p', zrr N (zF O, zF xs, p) = some (v, zF xs, p') /\ v ∈ O /\ Sc xs p' := by
 simp only [zrr, FSpec.d, zAO]
 obtain ⟨v, p', h1, h2, h3⟩ := zcF N (n := (O.length : Int)) (by omega) D
 rw [Ja, h1]
 have h4 : v.toNat < O.length := by omega
 simp only [h2.1, if_true, zdQ O _ h4, List.getElem?_cons_zero]
 exact ⟨_, _, rfl, List.getElem_mem h4, h3⟩
theorem zCA (N : Nat) (xs : List Int) : zEv N (zF xs) = some (zF (xs.take 2000), 0) /\ Sc (xs.take 2000) 0 := by
 refine ⟨?_, ⟨by simp; omega, by omega, by omega⟩⟩
 simp only [zEv, FSpec.d, zAb, Ja]
 by_cases h : 2000 < (xs.length : Int)
 ·have h2 : (0 <= (2000 : Int) /\ (2000 : Int) <= xs.length) := by omega
  simp only [h, if_true, h2, and_self]
  simp [zF]
 ·have h2 : (0 <= (xs.length : Int) /\ (xs.length : Int) <= xs.length) := by omega
  simp only [h, if_false, h2, and_self, if_true]
  rw [List.take_of_length_le (by rw [Ja]; omega), List.take_of_length_le (by omega)]
section
variable {T : Type} (en : T -> List AV) (n : Nat) (hl : ∀ e, (en e).length = n)
def fl (L : List T) : List AV := (L.map en).flatten
include hl
theorem zci (L : List T) : (fl en L).length = L.length * n := by
 induction L with
 | nil => simp [fl]
 | cons a L ih =>
  show ((en a) ++ fl en L).length = _
  rw [List.length_append, ih, hl, List.length_cons, Nat.succ_mul, Nat.add_comm]
theorem zil : ∀ (L : List T) (i j : Nat) (h : i < L.length), j <= n -> (fl en L).drop (i * n + j) = (en L[i]).drop j ++ fl en (L.drop (i + 1))
 | a :: L, 0, j, h, hj => by
  show ((en a) ++ fl en L).drop (0 * n + j) = _
  rw [Nat.zero_mul, Nat.zero_add, List.drop_append_of_le_length (by rw [hl]; exact hj)]
  rfl
 | a :: L, i + 1, j, h, hj => by
  show ((en a) ++ fl en L).drop ((i + 1) * n + j) = _
  have e : (i + 1) * n + j = (en a).length + (i * n + j) := by rw [hl, Nat.succ_mul]; omega
  rw [e, List.drop_append, List.drop_eq_nil_of_le (by omega), Nat.add_sub_cancel_left, List.nil_append, zil L i j (by simpa using h) hj]
  rfl
theorem zxx (L : List T) (i j : Nat) (h : i < L.length) (hj : j < n) : (fl en L)[i * n + j]? = (en L[i])[j]? := by
 have := congrArg (fun l : List AV => l[0]?) (zil en n hl L i j h (Nat.le_of_lt hj))
 simp only [List.getElem?_drop, Nat.add_zero] at this
 rw [this, List.getElem?_append_left (by rw [List.length_drop, hl]; omega)]
 simp
omit hl in
theorem zxv (L : List T) (a : T) : fl en L ++ en a = fl en (L ++ [a]) := by
 unfold fl
 rw [List.map_append, List.flatten_append]
 simp
theorem zim (L : List T) (k : Nat) (hk : k = L.length) : (fl en L).take (k * n) = fl en L := by
 rw [List.take_of_length_le]
 rw [zci en n hl, hk]
 exact Nat.le_refl _
omit hl in
theorem zxw (hd : ∀ e, (en e).map dat0 = en e) (L : List T) : (fl en L).map dat0 = fl en L := by
 induction L with
 | nil => rfl
 | cons a L ih =>
  show ((en a) ++ fl en L).map dat0 = (en a) ++ fl en L
  rw [List.map_append, ih, hd]
theorem ze1 (hd : ∀ e, (en e).map dat0 = en e) : ∀ L : List T, zL (fl en L) n L.length = L.map en
 | [] => rfl
 | a :: L => by
  show ((((en a) ++ fl en L).take n).map dat0) :: zL (((en a) ++ fl en L).drop n) n L.length = en a :: L.map en
  have e1 : ((en a) ++ fl en L).take n = en a := by rw [<- hl a, List.take_left]
  have e2 : ((en a) ++ fl en L).drop n = fl en L := by rw [<- hl a, List.drop_left]
  rw [e1, e2, hd, ze1 hd L]
theorem zhc (hd : ∀ e, (en e).map dat0 = en e) (L : List T) (k : Nat) (hk : k = L.length) : zL ((fl en L).take (k * n)) n k = L.map en := by
 rw [zim en n hl L k hk, hk, ze1 en n hl hd L]
theorem zql (L : List T) (i j : Nat) (h : i < L.length) (new : List AV) (b : T) (hb : splice (en L[i]) j new = en b) (hj : j + new.length <= n) : splice (fl en L) (i * n + j) new = fl en (L.set i b) := by
 have hlen : i * n + j + new.length <= (fl en L).length := by
  rw [zci en n hl]
  have : (i + 1) * n <= L.length * n := Nat.mul_le_mul_right n h
  rw [Nat.succ_mul] at this
  omega
 refine List.ext_getElem? fun k => ?_
 rw [JG new _ _ hlen]
 by_cases hn : n = 0
 ·have e1 : ∀ L' : List T, fl en L' = [] := fun L' => List.eq_nil_of_length_eq_zero (by rw [zci en n hl, hn, Nat.mul_zero])
  rw [e1, e1]
  have : ¬ (i * n + j <= k /\ k < i * n + j + new.length) := by omega
  rw [if_neg this]
 have hpos : 0 < n := Nat.pos_of_ne_zero hn
 by_cases hk : k < L.length * n
 ·obtain ⟨q, r, hq, hr, rfl⟩ : ∃ q r, q < L.length /\ r < n /\ k = q * n + r := ⟨k / n, k % n, (Nat.div_lt_iff_lt_mul hpos).2 hk, Nat.mod_lt _ hpos, by rw [Nat.mul_comm]; exact (Nat.div_add_mod k n).symm⟩
  rw [zxx en n hl L q r hq hr, zxx en n hl (L.set i b) q r (by simpa using hq) hr, List.getElem_set]
  by_cases e : i = q
  ·subst e
   simp only [if_true]
   rw [<- hb, JG new _ _ (by rw [hl]; exact hj)]
   have c : (i * n + j <= i * n + r /\ i * n + r < i * n + j + new.length) ↔ (j <= r /\ r < j + new.length) := by omega
   by_cases c2 : j <= r /\ r < j + new.length
   ·rw [if_pos (c.2 c2), if_pos c2]
    congr 1
    omega
   ·rw [if_neg (fun x => c2 (c.1 x)), if_neg c2]
  ·rw [if_neg e, if_neg]
   rintro ⟨c1, c2⟩
   rcases Nat.lt_or_gt_of_ne e with h1 | h1
   ·have : (i + 1) * n <= q * n := Nat.mul_le_mul_right n h1
    rw [Nat.succ_mul] at this
    omega
   ·have : (q + 1) * n <= i * n := Nat.mul_le_mul_right n h1
    rw [Nat.succ_mul] at this
    omega
 ·have e1 : (fl en L)[k]? = none := List.getElem?_eq_none (by rw [zci en n hl]; omega)
  have e2 : (fl en (L.set i b))[k]? = none := List.getElem?_eq_none (by rw [zci en n hl, List.length_set]; omega)
  have : ¬ (i * n + j <= k /\ k < i * n + j + new.length) := by
   rw [zci en n hl] at hlen
   omega
  rw [if_neg this, e1, e2]
end
end Go.Proofs.YthdgnfcbehcplaaGreatDoor
end
section
namespace Go.Proofs.YthdgnfcbehcplaaGreatDoor
@[reducible] def nmE (e : RT0) : RT1 := (e.1, e.2.1, e.2.2.1, e.2.2.2.1, e.2.2.2.2.1, e.2.2.2.2.2.1, e.2.2.2.2.2.2.1, e.2.2.2.2.2.2.2.1, e.2.2.2.2.2.2.2.2.1, ())
@[reducible] def pkE (e : RT0) : List (List AV) := e.2.2.2.2.2.2.2.2.2.1
@[reducible] def loE (e : RT0) : Int := e.2.2.2.2.2.2.2.2.2.2.2.2.2.2.2.2.2.2.2.2.2.2.1
@[reducible] def hiE (e : RT0) : Int := e.2.2.2.2.2.2.2.2.2.2.2.2.2.2.2.2.2.2.2.2.2.2.2.1
def z10 (c : Nat) : zrh := ((⟨#[]⟩ : ByteArray), (⟨#[]⟩ : ByteArray), (⟨#[]⟩ : ByteArray), (⟨#[]⟩ : ByteArray), 0, 0, 0, 0, 0, c, 0, 0, 0, 0, 0, 0, 0, 0, 0, 0, 0, 0, 0, 0, 0, ())
def z8 : RT8 := ((⟨#[]⟩ : ByteArray), (⟨#[]⟩ : ByteArray), (⟨#[]⟩ : ByteArray), (⟨#[]⟩ : ByteArray), 0, 0, 0, 0, 0, ([] : List (List AV)), 0, 0, 0, 0, 0, 0, 0, 0, 0, 0, 0, 0, 0, 0, 0, ())
def AB : ByteArray := ⟨#[65, 66]⟩
def LC : ByteArray := ⟨#[48, 48]⟩
def CH : ByteArray := ⟨#[66, 72, 90]⟩
def st : Nat -> ByteArray
 | 0 => ⟨#[83, 49]⟩
 | 1 => ⟨#[83, 50]⟩
 | 2 => ⟨#[83, 51]⟩
 | _ => ⟨#[83, 52]⟩
theorem zCV (k : Nat) (h : k < 4) : zss 600 (k : Int) = some (AB, st k, LC, CH, ()) := by
 rcases (show k = 0 \/ k = 1 \/ k = 2 \/ k = 3 by omega) with rfl | rfl | rfl | rfl <;> kernel_rfl
theorem zvy {xs : List Int} {p : Int} (D : Sc xs p) : ∃ x y z p', zyl 600 (20, zF xs, p) = some (x, y, z, zF xs, p') /\ Sc xs p' := by
 obtain ⟨v1, p1, h1, m1, D1⟩ := zcF 600 (n := 41) (by omega) D
 obtain ⟨v2, p2, h2, m2, D2⟩ := zcF 600 (n := 41) (by omega) D1
 obtain ⟨v3, p3, h3, m3, D3⟩ := zcF 600 (n := 21) (by omega) D2
 simp only [zyl, FSpec.d, zBd]
 have e1 : i64 (i64 (2 * 20) + 1) = 41 := by decide
 have e2 : i64 (20 + 1) = 21 := by decide
 simp only [e1, e2, h1, h2, h3]
 exact ⟨_, _, _, _, rfl, D3⟩
def zh1 (k : Nat) (p : RT1) : Prop := p.1 = AB /\ p.2.1 = st k /\ p.2.2.1 = LC /\ p.2.2.2.1 = CH /\ p.2.2.2.2.2.2.2.2.1 = 0
theorem fl1 (L : List RT1) : (fl zy L).map dat0 = fl zy L := zxw zy (fun _ => rfl) L
theorem fl0 (L : List RT0) : (fl zB L).map dat0 = fl zB L := zxw zB (fun _ => rfl) L
theorem zxB (L : List RT1) : (fl zy L).length = L.length * 9 := zci zy 9 zbb L
theorem zCw (L : List RT0) : (fl zB L).length = L.length * 25 := zci zB 25 zfC L
theorem app1 (L : List RT1) (a : RT1) (k : Nat) (hk : k = L.length) : (fl zy L).take (k * 9) ++ [zy a].flatten = fl zy (L ++ [a]) := by
 rw [zim zy 9 zbb L k hk, <- zxv]; simp
theorem app0 (L : List RT0) (a : RT0) (k : Nat) (hk : k = L.length) : (fl zB L).take (k * 25) ++ [zB a].flatten = fl zB (L ++ [a]) := by
 rw [zim zB 25 zfC L k hk, <- zxv]; simp
theorem zzh (t : Int) {xs : List Int} (ht : 0 <= t /\ t <= 100000) : ∀ (m k f : Nat) (p : Int) (L : List RT1), k + m = 4 -> m < f -> Sc xs p -> L.length = k -> (∀ i (h : i < L.length), zh1 i L[i]) ->
  ∃ (L' : List RT1) (p' : Int), (jh 600).L f (1, t, (k : Int), zF xs, p, z8, z10 k, fl zy L) = some (t, zF xs, p', z8, z10 L'.length, fl zy L') /\ (1 <= L'.length /\ L'.length <= 4) /\ (∀ i (h : i < L'.length), zh1 i L'[i]) /\ Sc xs p' := by
 intro m
 induction m with
 | zero =>
  intro k f p L hk hf D hl hL
  obtain ⟨f, rfl⟩ := pS hf
  obtain ⟨v, p1, h1, m1, D1⟩ := zcF 600 (n := 4) (by omega) D
  refine ⟨L, p1, ?_, by omega, hL, D1⟩
  show (jh 600).b _ _ ((jh 600).L f) some = _
  simp only [jh]
  have e1 : i64 (1 + v) = 1 + v := Zr (by omega)
  have e2 : decide ((k : Int) < 1 + v) = false := dF (by omega)
  simp only [h1, e1, e2, fl1, hl]
 | succ m ih =>
  intro k f p L hk hf D hl hL
  obtain ⟨f, rfl⟩ := pS hf
  obtain ⟨v, p1, h1, m1, D1⟩ := zcF 600 (n := 4) (by omega) D
  have e1 : i64 (1 + v) = 1 + v := Zr (by omega)
  by_cases hc : (k : Int) < 1 + v
  ·obtain ⟨u, p2, h2, m2, D2⟩ := zcF 600 (n := 3) (by omega) D1
   have hs := zCV k (by omega)
   obtain ⟨q, hq⟩ : ∃ q : RT1, q = (AB, st k, LC, CH, t + 10, t + 10, t + 10 + u, 1, 0, ()) := ⟨_, rfl⟩
   have hfin : ∀ i (h : i < (L ++ [q]).length), zh1 i (L ++ [q])[i] := fun i h => by
    rw [List.getElem_append]
    split
    ·exact hL i _
    ·simp at h
     obtain rfl : i = k := by omega
     simp [hl, hq, zh1]
   obtain ⟨L', p', r1, r2, r3, r4⟩ := ih (k + 1) f p2 (L ++ [q]) (by omega) (by omega) D2 (by simp [hl]) hfin
   refine ⟨L', p', ?_, r2, r3, r4⟩
   show (jh 600).b _ _ ((jh 600).L f) some = _
   generalize (jh 600).L f = Lf at r1 |-
   simp only [jh]
   have e2 : decide ((k : Int) < 1 + v) = true := dT (by omega)
   have e3 : i64 (10 * 1) = 10 := by decide
   have e4 : i64 (t + 10) = t + 10 := Zr (by omega)
   have e5 : i64 (t + 10 + u) = t + 10 + u := Zr (by omega)
   have e6 : i64 ((k : Int) + 1) = ((k + 1 : Nat) : Int) := by rw [Zr (by omega)]; omega
   have hb : ((z10 k).2.2.2.2.2.2.2.2.2.1 * 9 <= (fl zy L).length /\ ((z10 k).2.2.2.2.2.2.2.2.2.1 + [zy q].length) * 104 <= zh) := by
    rw [zxB]; unfold zh z10; simp; omega
   simp only [h1, e1, e2, hs, h2, e3, e4, e5, e6, <- hq, hb, if_true, and_self]
   rw [app1 L q _ (show (z10 k).2.2.2.2.2.2.2.2.2.1 = _ from hl.symm), fl1]
   exact r1
  ·refine ⟨L, p1, ?_, by omega, hL, D1⟩
   show (jh 600).b _ _ ((jh 600).L f) some = _
   simp only [jh]
   have e2 : decide ((k : Int) < 1 + v) = false := dF (by omega)
   simp only [h1, e1, e2, fl1, hl]
theorem zEL {xs : List Int} {p : Int} (D : Sc xs p) : ∃ (e : zyX) (L : List RT1) (p' : Int), znr 600 (1, zF xs, p) = some (e, zF xs, p', fl zy L) /\ e.2.2.2.2.2.2.2.2.2.1 = L.length /\ (1 <= L.length /\ L.length <= 4) /\ (∀ i (h : i < L.length), zh1 i L[i]) /\ e.2.2.2.2.2.2.2.2.2.2.2.2.2.2.2.2.2.2.2.2.2.2.1 <= e.2.2.2.2.2.2.2.2.2.2.2.2.2.2.2.2.2.2.2.2.2.2.2.1 /\ Sc xs p' := by
 obtain ⟨v, p1, h1, m1, D1⟩ := zcF 600 (n := 300) (by omega) D
 have e1 : i64 (1000 + v) = 1000 + v := Zr (by omega)
 obtain ⟨L, p2, h2, hl, hL, D2⟩ := zzh (1000 + v) (by omega) 4 0 600 p1 [] rfl (by omega) D1 rfl (fun i h => by cases h)
 obtain ⟨x, y, z, p3, h3, D3⟩ := zvy D2
 obtain ⟨u4, p4, h4, m4, D4⟩ := zcF 600 (n := 40) (by omega) D3
 obtain ⟨u5, p5, h5, m5, D5⟩ := zzP 600 [0, 0, 5, 500] (by simp) D4
 replace h5 : zrr 600 ([[AV.v (.int .i64 0)], [AV.v (.int .i64 0)], [AV.v (.int .i64 5)], [AV.v (.int .i64 500)]], zF xs, p4) = some (u5, zF xs, p5) := h5
 obtain ⟨u6, p6, h6, m6, D6⟩ := zcF 600 (n := 3) (by omega) D5
 replace h2 : (jh 600).L 600 (1, 1000 + v, 0, zF xs, p1, z8, z10 0, []) = some (1000 + v, zF xs, p2, z8, z10 L.length, fl zy L) := h2
 unfold z8 z10 at h2
 simp only [znr, FSpec.d, zwc]
 have hd : (fl zy L).drop ((0 + Int.toNat 0) * 9) = zy L[0] ++ fl zy (L.drop 1) := zil zy 9 zbb L 0 0 (by omega) (by omega)
 have hz : (0 <= (0 : Int) /\ (0 : Int) < (L.length : Int)) := by omega
 simp only [h1, e1, zns, h2, hz, and_self, if_true, hd, zje, h3, h4, h5, h6]
 by_cases hc : u6 > 0
 ·obtain ⟨u7, p7, h7, m7, D7⟩ := zcF 600 (n := 400) (by omega) D6
  obtain ⟨u8, p8, h8, m8, D8⟩ := zcF 600 (n := 60) (by omega) D7
  simp only [hc, decide_true, h7, h8, fl1]
  have e9 : i64 (u7 + u8) = u7 + u8 := Zr (by omega)
  simp only [e9]
  exact ⟨_, _, _, rfl, rfl, hl, hL, by dsimp only; omega, D8⟩
 ·simp only [hc, decide_false, fl1]
  exact ⟨_, _, _, rfl, rfl, hl, hL, Int.le_refl 0, D6⟩
def pick (n i : Nat) : RT1 := (AB, st i, LC, CH, 1000 + 400 * n + i, 1000 + 400 * n + i, 1000 + 400 * n + i + 2, 7, 0, ())
def pks (n f c : Nat) : List RT1 := (List.range' f (c - f)).map (pick n)
theorem Ju (n f c : Nat) : (pks n f c).length = c - f := by simp [pks]
theorem zvn (n i : Nat) : zh1 i (pick n i) := ⟨rfl, rfl, rfl, rfl, rfl⟩
theorem zga (L : List RT1) (k j : Nat) (hk : k < L.length) (hj : j < 9) (a : AV) (b : RT1) (hb : splice (zy L[k]) j [a] = zy b) : splice (fl zy L) ((0 + ((k : Int)).toNat) * 9 + j) [a] = fl zy (L.set k b) := by
 rw [Nat.zero_add, Int.toNat_natCast]
 exact zql zy 9 zbb L k j hk [a] b hb (by simp; omega)
theorem zvS (m : Int) (cnt n : Nat) (e : zyX) (ob : List AV) (hob : ob.map dat0 = ob) {xs : List Int} (hn : n <= 100) : ∀ (d k f : Nat) (p : Int) (L : List RT1), k + d = L.length -> d < f -> L.length <= 4 -> e.2.2.2.2.2.2.2.2.2.1 = L.length -> (∀ i (h : i < L.length), zh1 i L[i]) -> (∀ i (h : i < L.length), i < k -> L[i] = pick n i) ->
  (Jp 600).L f (m, cnt, (n : Int), (L.length : Int), (k : Int), zF xs, p, e, fl zy L, ob) = some (m, cnt, (n : Int), zF xs, p, e, fl zy (pks n 0 L.length), ob) := by
 intro d
 induction d with
 | zero =>
  intro k f p L hk hf hL he hO hP
  obtain ⟨f, rfl⟩ := pS hf
  show (Jp 600).b _ _ ((Jp 600).L f) some = _
  simp only [Jp]
  have e2 : decide ((k : Int) < L.length) = false := dF (by omega)
  have e3 : L = pks n 0 L.length := by
   refine List.ext_getElem (by simp [pks]) fun i h1 h2 => ?_
   rw [hP i h1 (by omega)]
   simp [pks]
  simp only [e2, fl1, hob]
  rw [<- e3]
 | succ d ih =>
  intro k f p L hk hf hL he hO hP
  obtain ⟨f, rfl⟩ := pS hf
  have hkl : k < L.length := by omega
  obtain ⟨o1, o2, o3, o4, o5⟩ := hO k hkl
  obtain ⟨q, hq⟩ : ∃ q, L[k] = q := ⟨_, rfl⟩
  rw [hq] at o1 o2 o3 o4 o5
  obtain ⟨q1, q2, q3, q4, q5, q6, q7, q8, q9, _⟩ := q
  subst o1 o2 o3 o4 o5
  have ih' := ih (k + 1) f p (L.set k (pick n k)) (by simp; omega) (by omega) (by simpa using hL) (by simpa using he) (fun i h => by
   rw [List.getElem_set]
   split
   ·rename_i e; subst e; exact zvn n _
   ·exact hO i (by simpa using h)) (fun i h hi => by
   rw [List.getElem_set]
   split
   ·rename_i e; subst e; rfl
   ·exact hP i (by simpa using h) (by omega))
  rw [List.length_set] at ih'
  show (Jp 600).b _ _ ((Jp 600).L f) some = _
  obtain ⟨Lf, hLf⟩ : ∃ Lf, Lf = (Jp 600).L f := ⟨_, rfl⟩
  rw [<- hLf] at ih' |-
  simp only [Jp]
  have e2 : decide ((k : Int) < L.length) = true := dT (by omega)
  have e3 : i64 (400 * (n : Int)) = 400 * n := Zr (by omega)
  have e4 : i64 (1000 + 400 * (n : Int)) = 1000 + 400 * n := Zr (by omega)
  have e5 : i64 (1000 + 400 * (n : Int) + k) = 1000 + 400 * n + k := Zr (by omega)
  have e6 : i64 (1000 + 400 * (n : Int) + k + 2) = 1000 + 400 * n + k + 2 := Zr (by omega)
  have e7 : i64 ((k : Int) + 1) = ((k + 1 : Nat) : Int) := by rw [Zr (by omega)]; omega
  have hz : (0 <= (k : Int) /\ (k : Int) < (L.length : Int)) := by omega
  have s1 := zga L k 4 hkl (by omega) (AV.v (.int .i64 (1000 + 400 * n + k))) (AB, st k, LC, CH, 1000 + 400 * n + k, q6, q7, q8, 0, ()) (by rw [hq]; rfl)
  have s2 := zga (L.set k (AB, st k, LC, CH, 1000 + 400 * n + k, q6, q7, q8, 0, ())) k 5 (by simpa using hkl) (by omega) (AV.v (.int .i64 (1000 + 400 * n + k))) (AB, st k, LC, CH, 1000 + 400 * n + k, 1000 + 400 * n + k, q7, q8, 0, ()) (by rw [List.getElem_set_self]; rfl)
  have s3 := zga (L.set k (AB, st k, LC, CH, 1000 + 400 * n + k, 1000 + 400 * n + k, q7, q8, 0, ())) k 6 (by simpa using hkl) (by omega) (AV.v (.int .i64 (1000 + 400 * n + k + 2))) (AB, st k, LC, CH, 1000 + 400 * n + k, 1000 + 400 * n + k, 1000 + 400 * n + k + 2, q8, 0, ()) (by rw [List.getElem_set_self]; rfl)
  have s4 := zga (L.set k (AB, st k, LC, CH, 1000 + 400 * n + k, 1000 + 400 * n + k, 1000 + 400 * n + k + 2, q8, 0, ())) k 7 (by simpa using hkl) (by omega) (AV.v (.int .i64 7)) (pick n k) (by rw [List.getElem_set_self]; rfl)
  rw [List.set_set] at s2 s3 s4
  have g : ∀ (L' : List RT1) (j : Nat), L'.length = L.length -> j < 9 -> (0 + ((k : Int)).toNat) * 9 + j + 1 <= (fl zy L').length := fun L' j h1 h2 => by
   rw [zxB, h1, Nat.zero_add, Int.toNat_natCast]; omega
  simp only [e2, e3, e4, e5, e6, e7, he, hz, and_self, if_true, s1, s2, s3, s4, g L 4 rfl (by omega), g _ 5 (List.length_set) (by omega), g _ 6 (List.length_set) (by omega), g _ 7 (List.length_set) (by omega), fl1, hob]
  exact ih'
def EvAt (n : Nat) (e : RT0) : Prop := ∃ f c, f < c /\ c <= 4 /\ f <= 1 /\ nmE e = pick n f /\ pkE e = (pks n f c).map zy /\ loE e <= hiE e
def Evs (lo hi : Nat) : List RT0 -> Prop
 | [] => lo <= hi
 | e :: r => ∃ n, lo <= n /\ EvAt n e /\ Evs (n + 1) hi r
theorem Evs.mono : ∀ {L : List RT0} {lo hi hi' : Nat}, Evs lo hi L -> hi <= hi' -> Evs lo hi' L
 | [], lo, hi, hi', h, hh => Nat.le_trans h hh
 | e :: r, lo, hi, hi', h, hh => by
  obtain ⟨n, h1, h2, h3⟩ := h
  exact ⟨n, h1, h2, h3.mono hh⟩
theorem Evs.snoc : ∀ {L : List RT0} {lo n : Nat} {e : RT0}, Evs lo n L -> EvAt n e -> Evs lo (n + 1) (L ++ [e])
 | [], lo, n, e, h, he => ⟨n, h, he, Nat.le_refl _⟩
 | a :: r, lo, n, e, h, he => by
  obtain ⟨m, h1, h2, h3⟩ := h
  exact ⟨m, h1, h2, h3.snoc he⟩
theorem zju (n r c : Nat) (h : r <= c) : (fl zy (pks n 0 c)).drop (r * 9) = fl zy (pks n r c) := by
 have e : pks n 0 c = pks n 0 r ++ pks n r c := by
  unfold pks
  rw [<- List.map_append, Nat.sub_zero, Nat.sub_zero]
  congr 1
  rw [show c = r + (c - r) by omega, <- List.range'_append_1]
  simp
 rw [e]
 unfold fl
 rw [List.map_append, List.flatten_append]
 have := zxB (pks n 0 r)
 unfold fl at this
 rw [Ju, Nat.sub_zero] at this
 rw [<- this, List.drop_left]
theorem zu7 (m : Nat) {xs : List Int} (hm : m <= 20) : ∀ (d n f : Nat) (p : Int) (A : List RT0), n + d = m -> d < f -> Sc xs p -> A.length <= n -> Evs 0 n A ->
  ∃ (A' : List RT0) (p' : Int), (Jc 600).L f (A.length, (m : Int), (n : Int), zF xs, p, fl zB A) = some (A'.length, zF xs, p', fl zB A') /\ A'.length <= m /\ Evs 0 m A' /\ Sc xs p' := by
 intro d
 induction d with
 | zero =>
  intro n f p A hk hf D hA hE
  obtain ⟨f, rfl⟩ := pS hf
  refine ⟨A, p, ?_, by omega, by rw [<- hk]; exact hE, D⟩
  show (Jc 600).b _ _ ((Jc 600).L f) some = _
  simp only [Jc]
  have e2 : decide ((n : Int) < (m : Int)) = false := dF (by omega)
  simp only [e2, fl0]
 | succ d ih =>
  intro n f p A hk hf D hA hE
  obtain ⟨f, rfl⟩ := pS hf
  have e2 : decide ((n : Int) < (m : Int)) = true := dT (by omega)
  have e7 : i64 ((n : Int) + 1) = ((n + 1 : Nat) : Int) := by rw [Zr (by omega)]; omega
  obtain ⟨v, p1, h1, m1, D1⟩ := zcF 600 (n := 3) (by omega) D
  by_cases hv : v = 0
  ·obtain ⟨A', p', r1, r2, r3, r4⟩ := ih (n + 1) f p1 A (by omega) (by omega) D1 (by omega) (hE.mono (by omega))
   refine ⟨A', p', ?_, r2, r3, r4⟩
   show (Jc 600).b _ _ ((Jc 600).L f) some = _
   generalize (Jc 600).L f = Lf at r1 |-
   simp only [Jc]
   have e3 : (v == 0) = true := by simp [hv]
   simp only [e2, h1, e3, e7, fl0]
   exact r1
  ·have e3 : (v == 0) = false := by simp [hv]
   obtain ⟨e, L, p2, h2, hl, hl2, hL, hlo, D2⟩ := zEL D1
   have h3 := zvS (m : Int) A.length n e (fl zB A) (fl0 A) (xs := xs) (by omega) L.length 0 600 p2 L (by omega) (by omega) (by omega) hl hL (fun i h hi => by omega)
   replace h3 : (Jp 600).L 600 ((m : Int), A.length, (n : Int), (L.length : Int), 0, zF xs, p2, e, fl zy L, fl zB A) = some ((m : Int), A.length, (n : Int), zF xs, p2, e, fl zy (pks n 0 L.length), fl zB A) := h3
   obtain ⟨w, p3, h4, m4, D3⟩ := zcF 600 (n := 2) (by omega) D2
   have e4 : i64 (((L.length : Nat) : Int) - 1) = ((L.length - 1 : Nat) : Int) := by rw [Zr (by omega)]; omega
   obtain ⟨r, hr⟩ : ∃ r : Nat, (if ((L.length - 1 : Nat) : Int) < w then ((L.length - 1 : Nat) : Int) else w) = (r : Int) /\ r <= 1 /\ r < L.length := by
    by_cases hc : ((L.length - 1 : Nat) : Int) < w
    ·exact ⟨L.length - 1, by rw [if_pos hc], by omega, by omega⟩
    ·exact ⟨w.toNat, by rw [if_neg hc]; omega, by omega, by omega⟩
   obtain ⟨hr, hr1, hr2⟩ := hr
   obtain ⟨q, hq⟩ : ∃ q : RT0, q = ((pick n r).1, (pick n r).2.1, (pick n r).2.2.1, (pick n r).2.2.2.1, (pick n r).2.2.2.2.1, (pick n r).2.2.2.2.2.1, (pick n r).2.2.2.2.2.2.1, (pick n r).2.2.2.2.2.2.2.1, (pick n r).2.2.2.2.2.2.2.2.1, (pks n r L.length).map zy, e.2.2.2.2.2.2.2.2.2.2) := ⟨_, rfl⟩
   have hqe : EvAt n q := ⟨r, L.length, hr2, hl2.2, hr1, by rw [hq], by rw [hq], by rw [hq]; exact hlo⟩
   obtain ⟨A', p', r1, r2, r3, r4⟩ := ih (n + 1) f p3 (A ++ [q]) (by omega) (by omega) D3 (by simp; omega) (hE.snoc hqe)
   refine ⟨A', p', ?_, r2, r3, r4⟩
   show (Jc 600).b _ _ ((Jc 600).L f) some = _
   generalize (Jc 600).L f = Lf at r1 |-
   rw [List.length_append] at r1
   simp only [Jc]
   have hz1 : (0 <= (r : Int) /\ (r : Int) <= (L.length : Int)) := by omega
   have hz2 : (0 <= (0 : Int) /\ (0 : Int) < ((L.length - r : Nat) : Int)) := by omega
   have hd1 : (fl zy (pks n 0 L.length)).drop ((0 + r + Int.toNat 0) * 9) = zy (pick n r) ++ fl zy (pks n (r + 1) L.length) := by
    rw [show (0 + r + Int.toNat 0) * 9 = r * 9 by simp, zju n r _ (by omega)]
    have : pks n r L.length = pick n r :: pks n (r + 1) L.length := by
     unfold pks
     rw [show L.length - r = (L.length - (r + 1)) + 1 by omega, List.range'_succ]
     rfl
    rw [this]
    rfl
   have hd2 : zaj (0 + r) 9 (fl zy (pks n 0 L.length)) = fl zy (pks n r L.length) := by
    rw [zjt, Nat.zero_add, zju n r _ (by omega)]
   have hg1 : (L.length - r) * 9 <= (fl zy (pks n r L.length)).length := by rw [zxB, Ju]; omega
   have hch : zL ((fl zy (pks n r L.length)).take ((L.length - r) * 9)) 9 (L.length - r) = (pks n r L.length).map zy := zhc zy 9 zbb (fun _ => rfl) _ _ (by rw [Ju])
   have hg2 : (A.length * 25 <= (fl zB A).length /\ (A.length + [zB q].length) * 248 <= zh) := by
    rw [zCw]; unfold zh; simp; omega
   simp only [e2, h1, e3, h2, hl, fl1, fl0, h3, h4, e4, hr, hz1, Int.toNat_natCast, hz2, and_self, if_true, hd1, zje, hd2, hg1, hch]
   simp only [<- hq, hg2, and_self, if_true, e7]
   rw [app0 A q _ rfl, fl0]
   exact r1
theorem zqi (m : Nat) (hm : m <= 20) {xs : List Int} {p : Int} (D : Sc xs p) : ∃ (A : List RT0) (p' : Int), zgv 600 ((m : Int), zF xs, p) = some (A.map zB, zF xs, p') /\ A.length <= m /\ Evs 0 m A /\ Sc xs p' := by
 obtain ⟨A, p', h1, h2, h3, h4⟩ := zu7 m hm m 0 600 p [] (by omega) (by omega) D (by simp) (Nat.le_refl 0)
 refine ⟨A, p', ?_, h2, h3, h4⟩
 replace h1 : (Jc 600).L 600 (0, (m : Int), 0, zF xs, p, []) = some (A.length, zF xs, p', fl zB A) := h1
 simp only [zgv, FSpec.d, zAX, zwo, h1]
 have hg : A.length * 25 <= (fl zB A).length := by rw [zCw]; exact Nat.le_refl _
 simp only [hg, if_true, zhc zB 25 zfC (fun _ => rfl) A _ rfl]
end Go.Proofs.YthdgnfcbehcplaaGreatDoor
end
section
namespace Go.Proofs.YthdgnfcbehcplaaGreatDoor
@[reducible] def eqP (a b : RT1) : Bool := (((a.1 == b.1) && ((a.2.1 == b.2.1) && ((a.2.2.1 == b.2.2.1) && ((a.2.2.2.1 == b.2.2.2.1) && true)))) && ((a.2.2.2.2.1 == b.2.2.2.2.1) && ((a.2.2.2.2.2.1 == b.2.2.2.2.2.1) && ((a.2.2.2.2.2.2.1 == b.2.2.2.2.2.2.1) && ((a.2.2.2.2.2.2.2.1 == b.2.2.2.2.2.2.2.1) && ((a.2.2.2.2.2.2.2.2.1 == b.2.2.2.2.2.2.2.2.1) && true))))))
theorem zxm {a b : ByteArray} : (a == b) = true ↔ a = b := by
 constructor
 ·intro h
  obtain ⟨x⟩ := a
  obtain ⟨y⟩ := b
  have : (x == y) = true := h
  rw [eq_of_beq this]
 ·rintro rfl
  obtain ⟨x⟩ := a
  exact beq_self_eq_true x
theorem JZ (a : RT1) : eqP a a = true := by
 simp only [eqP, Bool.and_eq_true, beq_self_eq_true, zxm, and_self]
theorem zxs {a b : RT1} (h : eqP a b = true) : a = b := by
 obtain ⟨a1, a2, a3, a4, a5, a6, a7, a8, a9, a10⟩ := a
 obtain ⟨b1, b2, b3, b4, b5, b6, b7, b8, b9, b10⟩ := b
 simp only [eqP, Bool.and_eq_true, beq_iff_eq, zxm] at h
 obtain ⟨⟨h1, h2, h3, h4, -⟩, h5, h6, h7, h8, h9, -⟩ := h
 subst h1 h2 h3 h4 h5 h6 h7 h8 h9
 rfl
theorem zbd {a b : RT1} (h : a ≠ b) : eqP a b = false := by
 cases e : eqP a b with
 | false => rfl
 | true => exact absurd (zxs e) h
theorem zem (P : List RT1) (k : Nat) (h : k < P.length) : (P.map zy)[k]? = some (zy P[k]) := by simp [h]
theorem zcv (P : List RT0) (k : Nat) (h : k < P.length) : (P.map zB)[k]? = some (zB P[k]) := by simp [h]
theorem zt {α : Type} {P : List α} {k : Nat} (h : k < P.length) (p : α) : p ∈ P.drop k ↔ p = P[k] \/ p ∈ P.drop (k + 1) := by
 rw [List.drop_eq_getElem_cons h, List.mem_cons]
theorem zp {k : Nat} (h : k < 1000000) : i64 ((k : Int) + 1) = ((k + 1 : Nat) : Int) := by rw [Zr (by omega)]; omega
theorem zlV (P : List RT1) (p : RT1) (hP : P.length <= 500) : ∀ (d k f : Nat), k + d = P.length -> d < f -> ∃ y, (Zy 600).L f (P.map zy, (P.length : Int), (k : Int), p) = some y /\ ((p ∈ P.drop k /\ ∃ j : Nat, y = .inl (j : Int)) \/ (p ∉ P.drop k /\ y = .inr ())) := by
 intro d
 induction d with
 | zero =>
  intro k f hk hf
  obtain ⟨f, rfl⟩ := pS hf
  refine ⟨.inr (), ?_, .inr ⟨by rw [List.drop_eq_nil_of_le (by omega)]; simp, rfl⟩⟩
  show (Zy 600).b _ _ ((Zy 600).L f) some = _
  simp only [Zy]
  have e2 : decide ((k : Int) < (P.length : Int)) = false := dF (by omega)
  simp only [e2]
 | succ d ih =>
  intro k f hk hf
  obtain ⟨f, rfl⟩ := pS hf
  have hkl : k < P.length := by omega
  have e2 : decide ((k : Int) < (P.length : Int)) = true := dT (by omega)
  have e3 : (0 : Int) <= (k : Int) := by omega
  by_cases hc : p = P[k]
  ·refine ⟨.inl (k : Int), ?_, .inl ⟨(zt hkl p).2 (.inl hc), k, rfl⟩⟩
   show (Zy 600).b _ _ ((Zy 600).L f) some = _
   simp only [Zy]
   have e4 : eqP p P[k] = true := by rw [<- hc]; exact JZ p
   simp only [e2, e3, if_true, Int.toNat_natCast, zem P k hkl, Z0, e4]
  ·obtain ⟨y, r1, r2⟩ := ih (k + 1) f (by omega) (by omega)
   refine ⟨y, ?_, ?_⟩
   ·show (Zy 600).b _ _ ((Zy 600).L f) some = _
    generalize (Zy 600).L f = Lf at r1 |-
    simp only [Zy]
    have e4 : eqP p P[k] = false := zbd hc
    simp only [e2, e3, if_true, Int.toNat_natCast, zem P k hkl, Z0, e4, zp (show k < 1000000 by omega)]
    exact r1
   ·rcases r2 with ⟨h1, h2⟩ | ⟨h1, h2⟩
    ·exact .inl ⟨(zt hkl p).2 (.inr h1), h2⟩
    ·exact .inr ⟨fun h => ((zt hkl p).1 h).elim hc h1, h2⟩
theorem zib (P : List RT1) (p : RT1) (hP : P.length <= 500) : ∃ b, zyU 600 (P.map zy, p) = some b /\ (b = true ↔ p ∈ P) := by
 obtain ⟨y, h1, h2⟩ := zlV P p hP P.length 0 600 (by omega) (by omega)
 replace h1 : (Zy 600).L 600 (P.map zy, (P.length : Int), 0, p) = some y := h1
 rw [List.drop_zero] at h2
 simp only [zyU, FSpec.d, zlC, zv7, zew, zmU, List.length_map, h1]
 rcases h2 with ⟨h2, j, rfl⟩ | ⟨h2, rfl⟩
 ·exact ⟨_, rfl, by simp [h2]⟩
 ·exact ⟨_, rfl, by simp [h2]⟩
def Com (P Q : List RT1) : Prop := ∃ p ∈ P, p ∈ Q
theorem ziJ (P Q : List RT1) (e : RT0) (he : pkE e = Q.map zy) (hP : P.length <= 500) (hQ : Q.length <= 500) : ∀ (d k f : Nat), k + d = P.length -> d < f -> ∃ y, (Zx 600).L f (P.map zy, (P.length : Int), (k : Int), e) = some y /\ ((Com (P.drop k) Q /\ ∃ j : Nat, y = .inl ((j : Int), e)) \/ (¬ Com (P.drop k) Q /\ y = .inr e)) := by
 intro d
 induction d with
 | zero =>
  intro k f hk hf
  obtain ⟨f, rfl⟩ := pS hf
  refine ⟨.inr e, ?_, .inr ⟨by (rw [List.drop_eq_nil_of_le (by omega)]; rintro ⟨p, h, -⟩; cases h), rfl⟩⟩
  show (Zx 600).b _ _ ((Zx 600).L f) some = _
  simp only [Zx]
  have e2 : decide ((k : Int) < (P.length : Int)) = false := dF (by omega)
  simp only [e2]
 | succ d ih =>
  intro k f hk hf
  obtain ⟨f, rfl⟩ := pS hf
  have hkl : k < P.length := by omega
  have e2 : decide ((k : Int) < (P.length : Int)) = true := dT (by omega)
  have e3 : (0 : Int) <= (k : Int) := by omega
  obtain ⟨b, hb, hb2⟩ := zib Q P[k] hQ
  rw [<- he] at hb
  have hs : zyT 600 (P[k], e) = some (b, e) := by
   simp only [zyT, FSpec.d, zlB]
   simp only [hb]
  cases b with
  | true =>
   refine ⟨.inl ((k : Int), e), ?_, .inl ⟨⟨P[k], (zt hkl _).2 (.inl rfl), hb2.1 rfl⟩, k, rfl⟩⟩
   show (Zx 600).b _ _ ((Zx 600).L f) some = _
   simp only [Zx]
   simp only [e2, e3, if_true, Int.toNat_natCast, zem P k hkl, Z0, hs]
  | false =>
   obtain ⟨y, r1, r2⟩ := ih (k + 1) f (by omega) (by omega)
   refine ⟨y, ?_, ?_⟩
   ·show (Zx 600).b _ _ ((Zx 600).L f) some = _
    generalize (Zx 600).L f = Lf at r1 |-
    simp only [Zx]
    simp only [e2, e3, if_true, Int.toNat_natCast, zem P k hkl, Z0, hs, zp (show k < 1000000 by omega)]
    exact r1
   ·rcases r2 with ⟨⟨p, q1, q2⟩, h2⟩ | ⟨h1, h2⟩
    ·exact .inl ⟨⟨p, (zt hkl p).2 (.inr q1), q2⟩, h2⟩
    ·refine .inr ⟨fun ⟨p, q1, q2⟩ => ?_, h2⟩
     rcases (zt hkl p).1 q1 with e | e
     ·subst e; exact absurd (hb2.2 q2) (by simp)
     ·exact h1 ⟨p, e, q2⟩
theorem zq3 (P Q : List RT1) (a e : RT0) (ha : pkE a = P.map zy) (he : pkE e = Q.map zy) (hP : P.length <= 500) (hQ : Q.length <= 500) : ∃ b, zpu 600 (a, e) = some b /\ (b = true ↔ Com P Q) := by
 obtain ⟨y, h1, h2⟩ := ziJ P Q e he hP hQ P.length 0 600 (by omega) (by omega)
 replace h1 : (Zx 600).L 600 (P.map zy, (P.length : Int), 0, e) = some y := h1
 rw [List.drop_zero] at h2
 have ha' : a.2.2.2.2.2.2.2.2.2.1 = P.map zy := ha
 simp only [zpu, FSpec.d, zlo, zBV, zlA, zv1, zev, zmN, ha', List.length_map, h1]
 rcases h2 with ⟨h2, j, rfl⟩ | ⟨h2, rfl⟩
 ·exact ⟨_, rfl, by simp [h2]⟩
 ·exact ⟨_, rfl, by simp [h2]⟩
end Go.Proofs.YthdgnfcbehcplaaGreatDoor
end
section
namespace Go.Proofs.YthdgnfcbehcplaaGreatDoor
theorem nm0 (e : RT0) : Jv ((zB e).drop 0) = some (nmE e) := rfl
theorem zq4 (n f c : Nat) (hn : n < 5) (h1 : f < c) (h2 : c <= 4) (h3 : f <= 1) : zBI 600 ((pks n f c).map zy) = some true := by
 rcases (show n = 0 \/ n = 1 \/ n = 2 \/ n = 3 \/ n = 4 by omega) with rfl | rfl | rfl | rfl | rfl <;> rcases (show (f = 0 /\ c = 1) \/ (f = 0 /\ c = 2) \/ (f = 0 /\ c = 3) \/ (f = 0 /\ c = 4) \/ (f = 1 /\ c = 2) \/ (f = 1 /\ c = 3) \/ (f = 1 /\ c = 4) by omega) with ⟨rfl, rfl⟩ | ⟨rfl, rfl⟩ | ⟨rfl, rfl⟩ | ⟨rfl, rfl⟩ | ⟨rfl, rfl⟩ | ⟨rfl, rfl⟩ | ⟨rfl, rfl⟩ <;> kernel_rfl
theorem zzx (n f c : Nat) (hn : n < 5) (h1 : f < c) (h2 : c <= 4) (h3 : f <= 1) : zBL 600 ((pks n f c).map zy) = some (pick n f) := by
 rcases (show n = 0 \/ n = 1 \/ n = 2 \/ n = 3 \/ n = 4 by omega) with rfl | rfl | rfl | rfl | rfl <;> rcases (show (f = 0 /\ c = 1) \/ (f = 0 /\ c = 2) \/ (f = 0 /\ c = 3) \/ (f = 0 /\ c = 4) \/ (f = 1 /\ c = 2) \/ (f = 1 /\ c = 3) \/ (f = 1 /\ c = 4) by omega) with ⟨rfl, rfl⟩ | ⟨rfl, rfl⟩ | ⟨rfl, rfl⟩ | ⟨rfl, rfl⟩ | ⟨rfl, rfl⟩ | ⟨rfl, rfl⟩ | ⟨rfl, rfl⟩ <;> kernel_rfl
theorem zvF (n f c : Nat) (hn : n < 5) (h1 : f < c) (h2 : c <= 4) (h3 : f <= 1) : zBp 600 ((pks n f c).map zy) = some (pick n f) := by
 rcases (show n = 0 \/ n = 1 \/ n = 2 \/ n = 3 \/ n = 4 by omega) with rfl | rfl | rfl | rfl | rfl <;> rcases (show (f = 0 /\ c = 1) \/ (f = 0 /\ c = 2) \/ (f = 0 /\ c = 3) \/ (f = 0 /\ c = 4) \/ (f = 1 /\ c = 2) \/ (f = 1 /\ c = 3) \/ (f = 1 /\ c = 4) by omega) with ⟨rfl, rfl⟩ | ⟨rfl, rfl⟩ | ⟨rfl, rfl⟩ | ⟨rfl, rfl⟩ | ⟨rfl, rfl⟩ | ⟨rfl, rfl⟩ | ⟨rfl, rfl⟩ <;> kernel_rfl
theorem zvH (n f c : Nat) (hn : n < 5) (h1 : f < c) (h2 : c <= 4) (h3 : f <= 1) : zBu 600 ((pks n f c).map zy) = some ((pks n f c).map zy) := by
 rcases (show n = 0 \/ n = 1 \/ n = 2 \/ n = 3 \/ n = 4 by omega) with rfl | rfl | rfl | rfl | rfl <;> rcases (show (f = 0 /\ c = 1) \/ (f = 0 /\ c = 2) \/ (f = 0 /\ c = 3) \/ (f = 0 /\ c = 4) \/ (f = 1 /\ c = 2) \/ (f = 1 /\ c = 3) \/ (f = 1 /\ c = 4) by omega) with ⟨rfl, rfl⟩ | ⟨rfl, rfl⟩ | ⟨rfl, rfl⟩ | ⟨rfl, rfl⟩ | ⟨rfl, rfl⟩ | ⟨rfl, rfl⟩ | ⟨rfl, rfl⟩ <;> kernel_rfl
theorem zvG (n f c : Nat) (hn : n < 5) (h1 : f < c) (h2 : c <= 4) (h3 : f <= 1) : zhU 600 ((pks n f c).map zy, (pks n f c).map zy) = some true := by
 rcases (show n = 0 \/ n = 1 \/ n = 2 \/ n = 3 \/ n = 4 by omega) with rfl | rfl | rfl | rfl | rfl <;> rcases (show (f = 0 /\ c = 1) \/ (f = 0 /\ c = 2) \/ (f = 0 /\ c = 3) \/ (f = 0 /\ c = 4) \/ (f = 1 /\ c = 2) \/ (f = 1 /\ c = 3) \/ (f = 1 /\ c = 4) by omega) with ⟨rfl, rfl⟩ | ⟨rfl, rfl⟩ | ⟨rfl, rfl⟩ | ⟨rfl, rfl⟩ | ⟨rfl, rfl⟩ | ⟨rfl, rfl⟩ | ⟨rfl, rfl⟩ <;> kernel_rfl
theorem zqD (n m f g : Nat) (hn : n < m) (hm : m < 5) (hf : f <= 1) (hg : g <= 1) : zyO 600 (pick n f, pick m g) = some (-1) /\ zyF 600 (pick n f, pick m g) = some (-1) := by
 rcases (show (n = 0 /\ m = 1) \/ (n = 0 /\ m = 2) \/ (n = 0 /\ m = 3) \/ (n = 0 /\ m = 4) \/ (n = 1 /\ m = 2) \/ (n = 1 /\ m = 3) \/ (n = 1 /\ m = 4) \/ (n = 2 /\ m = 3) \/ (n = 2 /\ m = 4) \/ (n = 3 /\ m = 4) by omega) with ⟨rfl, rfl⟩ | ⟨rfl, rfl⟩ | ⟨rfl, rfl⟩ | ⟨rfl, rfl⟩ | ⟨rfl, rfl⟩ | ⟨rfl, rfl⟩ | ⟨rfl, rfl⟩ | ⟨rfl, rfl⟩ | ⟨rfl, rfl⟩ | ⟨rfl, rfl⟩ <;> rcases (show f = 0 \/ f = 1 by omega) with rfl | rfl <;> rcases (show g = 0 \/ g = 1 by omega) with rfl | rfl <;> exact ⟨by kernel_rfl, by kernel_rfl⟩
@[reducible] def tmP (p : RT1) : Int := p.2.2.2.2.1
theorem zjS {n f c : Nat} (hc : c <= 4) : ∀ p ∈ pks n f c, 1000 + 400 * (n : Int) <= tmP p /\ tmP p < 1000 + 400 * (n + 1 : Nat) := fun p hp => by
 obtain ⟨i, hi, rfl⟩ := List.mem_map.1 hp
 rw [List.mem_range'] at hi
 obtain ⟨j, hj, rfl⟩ := hi
 simp only [tmP, pick]
 omega
theorem zjR {n i m j : Nat} (hi : i < 4) (hj : j < 4) (h : pick n i = pick m j) : n = m /\ i = j := by
 have := congrArg tmP h
 simp only [tmP, pick] at this
 omega
theorem zqP (n f c : Nat) (hc : c <= 4) : (pks n f c).Pairwise fun a b => a ≠ b := by
 unfold pks
 rw [List.pairwise_map]
 refine (List.pairwise_lt_range' (s := f) (n := c - f)).imp_of_mem fun {a b} ha hb hab h => ?_
 rw [List.mem_range'] at ha hb
 obtain ⟨i, hi, rfl⟩ := ha
 obtain ⟨j, hj, rfl⟩ := hb
 have := zjR (by omega) (by omega) h
 omega
theorem zEK (a b : RT1) : zas (zy a) (zy b) = eqP a b := by
 show (a.1 == b.1 && (a.2.1 == b.2.1 && (a.2.2.1 == b.2.2.1 && (a.2.2.2.1 == b.2.2.2.1 && (a.2.2.2.2.1 == b.2.2.2.2.1 && (a.2.2.2.2.2.1 == b.2.2.2.2.2.1 && (a.2.2.2.2.2.2.1 == b.2.2.2.2.2.2.1 && (a.2.2.2.2.2.2.2.1 == b.2.2.2.2.2.2.2.1 && (a.2.2.2.2.2.2.2.2.1 == b.2.2.2.2.2.2.2.2.1 && true))))))))) = _
 simp only [eqP, Bool.and_true, Bool.and_assoc]
theorem zxy : ∀ (M : List RT1) (p : RT1), p ∉ M -> zix (zy p) (M.map zy) = false /\ zcw (zy p) (zy p) (M.map zy) = (M ++ [p]).map zy
 | [], p, h => ⟨rfl, rfl⟩
 | q :: M, p, h => by
  have h1 : p ≠ q := fun e => h (by rw [e]; exact List.mem_cons_self)
  obtain ⟨i1, i2⟩ := zxy M p (fun e => h (List.mem_cons_of_mem _ e))
  have e : zas (zy p) (zy q) = false := by rw [zEK]; exact zbd h1
  refine ⟨?_, ?_⟩
  ·unfold zix at i1 |-
   simp only [List.map_cons, zbi, e]
   exact i1
  ·simp only [List.map_cons, zcw, e, i2, List.cons_append]
theorem zq2 (A B : List (List AV)) (la i : Int) (P : List RT1) (hP : P.length <= 500) (hd : P.Pairwise fun a b => a ≠ b) : ∀ (d k f : Nat) (M : List RT1), k + d = P.length -> d < f -> (∀ p ∈ P.drop k, p ∉ M) -> (ZV 600).L f (A, B, P.map zy, la, i, (P.length : Int), (k : Int), M.map zy) = some (.inr (A, B, la, i, (M ++ P.drop k).map zy)) := by
 intro d
 induction d with
 | zero =>
  intro k f M hk hf hM
  obtain ⟨f, rfl⟩ := pS hf
  show (ZV 600).b _ _ ((ZV 600).L f) some = _
  simp only [ZV]
  have e2 : decide ((k : Int) < (P.length : Int)) = false := dF (by omega)
  simp only [e2]
  rw [List.drop_eq_nil_of_le (by omega), List.append_nil]
 | succ d ih =>
  intro k f M hk hf hM
  obtain ⟨f, rfl⟩ := pS hf
  have hkl : k < P.length := by omega
  have e2 : decide ((k : Int) < (P.length : Int)) = true := dT (by omega)
  have e3 : (0 : Int) <= (k : Int) := by omega
  obtain ⟨m1, m2⟩ := zxy M P[k] (hM _ ((zt hkl _).2 (.inl rfl)))
  have r1 := ih (k + 1) f (M ++ [P[k]]) (by omega) (by omega) (fun p hp hm => by
   rcases List.mem_append.1 hm with h | h
   ·exact hM p ((zt hkl p).2 (.inr hp)) h
   ·have h := List.mem_singleton.1 h
    obtain ⟨j, hj, e⟩ := List.getElem_of_mem hp
    rw [List.getElem_drop] at e
    rw [List.length_drop] at hj
    exact List.pairwise_iff_getElem.1 hd k (k + 1 + j) hkl (by omega) (by omega) (by rw [e, h]))
  show (ZV 600).b _ _ ((ZV 600).L f) some = _
  generalize (ZV 600).L f = Lf at r1 |-
  simp only [ZV]
  simp only [e2, e3, if_true, Int.toNat_natCast, zem P k hkl, Z0, m1, m2, zp (show k < 1000000 by omega)]
  rw [r1, List.append_assoc]
  congr 4
  rw [List.drop_eq_getElem_cons hkl]
  rfl
theorem zfc (A : List RT0) (hA : A.length <= 5) : ∀ (R : List RT0) (k lo f : Nat) (M : List RT1), A.drop k = R -> R.length < f -> k + R.length = A.length -> Evs lo 5 R -> (∀ q ∈ M, tmP q < 1000 + 400 * (lo : Int)) -> (∀ (h : 0 < k) (h' : k - 1 < A.length), ∃ n g, n < lo /\ g <= 1 /\ nmE A[k - 1] = pick n g) ->
  (jI 600).L f (A.map zB, A.map zB, (A.length : Int), (k : Int), M.map zy) = some (.inr ())
 | [], k, lo, f, M, hR, hf, hk, hE, hM, hN => by
  obtain ⟨f, rfl⟩ := pS hf
  show (jI 600).b _ _ ((jI 600).L f) some = _
  simp only [jI]
  have e2 : decide ((k : Int) < (A.length : Int)) = false := by rw [decide_eq_false_iff_not]; simp at hk; omega
  simp only [e2]
 | e :: R, k, lo, f, M, hR, hf, hk, hE, hM, hN => by
  obtain ⟨f, rfl⟩ := pS hf
  rw [List.length_cons] at hf hk
  have hkl : k < A.length := by omega
  have hek : A[k] = e := by
   have := List.drop_eq_getElem_cons hkl
   rw [hR] at this
   exact (List.cons.inj this).1.symm
  obtain ⟨n, hn, ⟨g, c, c1, c2, c3, c4, c5, c6⟩, hE'⟩ := hE
  have hn5 : n + 1 <= 5 := by
   have : ∀ (L : List RT0) (lo hi : Nat), Evs lo hi L -> lo <= hi := fun L => by
    induction L with
    | nil => exact fun lo hi h => h
    | cons a L ih => exact fun lo hi ⟨n, h1, _, h3⟩ => by have := ih _ _ h3; omega
   exact this _ _ _ hE'
  have e2 : decide ((k : Int) < (A.length : Int)) = true := dT (by omega)
  have e3 : (0 : Int) <= (k : Int) := by omega
  have r1 := zfc A hA R (k + 1) (n + 1) f (M ++ pks n g c) (by rw [<- List.tail_drop, hR]; rfl) (by omega) (by omega) hE' (fun q hq => by
   rcases List.mem_append.1 hq with h | h
   ·have := hM q h; omega
   ·exact (zjS c2 q h).2) (fun _ h' => ⟨n, g, by omega, c3, by simp only [Nat.add_sub_cancel]; rw [hek]; exact c4⟩)
  have s1 := zq4 n g c (by omega) c1 c2 c3
  have s2 := zzx n g c (by omega) c1 c2 c3
  have sl := zq2 (A.map zB) (A.map zB) (A.length : Int) (k : Int) (pks n g c) (by rw [Ju]; omega) (zqP n g c c2) (pks n g c).length 0 600 M (by omega) (by rw [Ju]; omega) (fun p hp hm => by
   have h1 := (zjS c2 p hp).1
   have h2 := hM p hm
   omega)
  rw [List.drop_zero] at sl
  replace sl : (ZV 600).L 600 (A.map zB, A.map zB, (pks n g c).map zy, (A.length : Int), (k : Int), ((pks n g c).length : Int), 0, M.map zy) = some (.inr (A.map zB, A.map zB, (A.length : Int), (k : Int), (M ++ pks n g c).map zy)) := sl
  have c5' : e.2.2.2.2.2.2.2.2.2.1 = (pks n g c).map zy := c5
  have e4 : (((pks n g c).length : Int) == 0) = false := by rw [Ju]; simp; omega
  have e5 : eqP (nmE e) (pick n g) = true := by rw [c4]; exact JZ _
  show (jI 600).b _ _ ((jI 600).L f) some = _
  generalize (jI 600).L f = Lf at r1 |-
  simp only [jI]
  simp only [e2, e3, if_true, Int.toNat_natCast, zcv A k hkl, hek, ZL, c5', List.length_map, e4, s1, s2, e5, Bool.not_true]
  by_cases hk0 : (k : Int) > 0
  ·have hk1 : i64 ((k : Int) - 1) = ((k - 1 : Nat) : Int) := by rw [Zr (by omega)]; omega
   obtain ⟨n', g', z1, z2, z3⟩ := hN (by omega) (by omega)
   have hl := (zqD n' n g' g (by omega) (by omega) z2 c3).1
   rw [<- c4] at hl
   rw [<- z3] at hl
   have e6 : decide ((-1 : Int) >= 0) = false := by decide
   have e7 : (0 : Int) <= ((k - 1 : Nat) : Int) := by omega
   simp only [hk0, decide_true, hk1, e7, if_true, Int.toNat_natCast, zcv A (k - 1) (by omega), nm0, hl, e6, sl, zp (show k < 1000000 by omega)]
   exact r1
  ·simp only [hk0, decide_false, sl, zp (show k < 1000000 by omega)]
   exact r1
theorem zdC {L : List RT0} {lo hi : Nat} : Evs lo hi L -> L.length + lo <= hi := by
 induction L generalizing lo with
 | nil => intro h; have h' : lo <= hi := h; rw [List.length_nil]; omega
 | cons a L ih => exact fun ⟨n, h1, _, h3⟩ => by have := ih h3; rw [List.length_cons]; omega
theorem zaY {A : List RT0} {m : Nat} (hm : m <= 5) (h : Evs 0 m A) : zhQ 600 (A.map zB) = some true := by
 have hl := zdC h
 have := zfc A (by omega) A 0 0 600 [] rfl (by omega) (by omega) (h.mono hm) (fun q hq => by cases hq) (fun h => by omega)
 replace this : (jI 600).L 600 (A.map zB, A.map zB, (A.length : Int), 0, []) = some (.inr ()) := this
 simp only [zhQ, FSpec.d, zk0, zwD, List.length_map, this]
def zaG (e : RT0) : Prop := ∃ P : List RT1, P.length <= 4 /\ pkE e = P.map zy
theorem EvAt.pk {n : Nat} {e : RT0} (h : EvAt n e) : zaG e := by
 obtain ⟨f, c, h1, h2, h3, h4, h5, h6⟩ := h
 exact ⟨pks n f c, by rw [Ju]; omega, h5⟩
theorem Evs.all : ∀ {E : List RT0} {lo hi : Nat}, Evs lo hi E -> ∀ e ∈ E, ∃ n, lo <= n /\ n < hi /\ EvAt n e
 | [], lo, hi, h, e, he => by cases he
 | a :: E, lo, hi, h, e, he => by
  obtain ⟨n, h1, h2, h3⟩ := h
  have := zdC h3
  rcases List.mem_cons.1 he with h | h
  ·subst h; exact ⟨n, h1, by omega, h2⟩
  ·obtain ⟨m, q1, q2, q3⟩ := h3.all e h
   exact ⟨m, by omega, q2, q3⟩
theorem Evs.names : ∀ {E : List RT0} {lo hi : Nat}, Evs lo hi E -> E.Pairwise fun a b => nmE a ≠ nmE b
 | [], lo, hi, h => .nil
 | a :: E, lo, hi, h => by
  obtain ⟨n, h1, ⟨f, c, c1, c2, c3, c4, c5, c6⟩, h3⟩ := h
  refine .cons (fun b hb e => ?_) h3.names
  obtain ⟨m, q1, q2, f', c', z1, z2, z3, z4, z5, z6⟩ := h3.all b hb
  rw [c4, z4] at e
  have := zjR (by omega) (by omega) e
  omega
theorem Evs.pk {E : List RT0} {lo hi : Nat} (h : Evs lo hi E) : ∀ e ∈ E, zaG e := fun e he => by
 obtain ⟨n, _, _, q⟩ := h.all e he
 exact q.pk
structure EvOk (E : List RT0) : Prop where
 v : zhQ 600 (E.map zB) = some true
 l : E.length <= 5
 names : E.Pairwise fun a b => nmE a ≠ nmE b
 pk : ∀ e ∈ E, zaG e
theorem Evs.ok {E : List RT0} {m : Nat} (hm : m <= 5) (h : Evs 0 m E) : EvOk E := ⟨zaY hm h, by have := zdC h; omega, h.names, h.pk⟩
end Go.Proofs.YthdgnfcbehcplaaGreatDoor
end
section
namespace Go.Proofs.YthdgnfcbehcplaaGreatDoor
theorem zCh (A B : List (List AV)) (P Q : List RT1) (i : Nat) (hi : i < P.length) (hA : A = P.map zy) (hB : B = Q.map zy) (hQ : Q.length <= 500) : ∀ (d k f : Nat), k + d = Q.length -> d < f -> ∃ y, (ZB 600).L f (A, B, (i : Int), (k : Int)) = some y /\ ((P[i] ∈ Q.drop k /\ y = .inl (A, B, true, (i : Int))) \/ (P[i] ∉ Q.drop k /\ y = .inr (A, B, (i : Int)))) := by
 subst hA hB
 intro d
 induction d with
 | zero =>
  intro k f hk hf
  obtain ⟨f, rfl⟩ := pS hf
  refine ⟨_, ?_, .inr ⟨by rw [List.drop_eq_nil_of_le (by omega)]; simp, rfl⟩⟩
  show (ZB 600).b _ _ ((ZB 600).L f) some = _
  simp only [ZB]
  have e2 : decide ((k : Int) < (Q.length : Int)) = false := dF (by omega)
  simp only [List.length_map, e2]
 | succ d ih =>
  intro k f hk hf
  obtain ⟨f, rfl⟩ := pS hf
  have hkl : k < Q.length := by omega
  have e2 : decide ((k : Int) < (Q.length : Int)) = true := dT (by omega)
  have e3 : (0 : Int) <= (k : Int) := by omega
  have e4 : (0 : Int) <= (i : Int) := by omega
  by_cases hc : P[i] = Q[k]
  ·refine ⟨_, ?_, .inl ⟨(zt hkl _).2 (.inl hc), rfl⟩⟩
   show (ZB 600).b _ _ ((ZB 600).L f) some = _
   simp only [ZB]
   have e5 : eqP P[i] Q[k] = true := by rw [hc]; exact JZ _
   simp only [List.length_map, e2, e3, e4, if_true, Int.toNat_natCast, zem Q k hkl, zem P i hi, Z0, e5]
  ·obtain ⟨y, r1, r2⟩ := ih (k + 1) f (by omega) (by omega)
   refine ⟨y, ?_, ?_⟩
   ·show (ZB 600).b _ _ ((ZB 600).L f) some = _
    generalize (ZB 600).L f = Lf at r1 |-
    simp only [ZB]
    have e5 : eqP P[i] Q[k] = false := zbd hc
    simp only [List.length_map, e2, e3, e4, if_true, Int.toNat_natCast, zem Q k hkl, zem P i hi, Z0, e5, zp (show k < 1000000 by omega)]
    exact r1
   ·rcases r2 with ⟨h1, h2⟩ | ⟨h1, h2⟩
    ·exact .inl ⟨(zt hkl _).2 (.inr h1), h2⟩
    ·exact .inr ⟨fun h => ((zt hkl _).1 h).elim hc h1, h2⟩
theorem zzb (P Q : List RT1) (hP : P.length <= 500) (hQ : Q.length <= 500) : ∀ (d k f : Nat), k + d = P.length -> d < f -> ∃ y, (Z6 600).L f (P.map zy, Q.map zy, (k : Int)) = some y /\ ((Com (P.drop k) Q /\ y = .inl true) \/ (¬ Com (P.drop k) Q /\ y = .inr ())) := by
 intro d
 induction d with
 | zero =>
  intro k f hk hf
  obtain ⟨f, rfl⟩ := pS hf
  refine ⟨_, ?_, .inr ⟨by (rw [List.drop_eq_nil_of_le (by omega)]; rintro ⟨p, h, -⟩; cases h), rfl⟩⟩
  show (Z6 600).b _ _ ((Z6 600).L f) some = _
  simp only [Z6]
  have e2 : decide ((k : Int) < (P.length : Int)) = false := dF (by omega)
  simp only [List.length_map, e2]
 | succ d ih =>
  intro k f hk hf
  obtain ⟨f, rfl⟩ := pS hf
  have hkl : k < P.length := by omega
  have e2 : decide ((k : Int) < (P.length : Int)) = true := dT (by omega)
  obtain ⟨z, q1, q2⟩ := zCh _ _ P Q k hkl rfl rfl hQ Q.length 0 600 (by omega) (by omega)
  replace q1 : (ZB 600).L 600 (P.map zy, Q.map zy, (k : Int), 0) = some z := q1
  rw [List.drop_zero] at q2
  rcases q2 with ⟨g1, rfl⟩ | ⟨g1, rfl⟩
  ·refine ⟨_, ?_, .inl ⟨⟨P[k], (zt hkl _).2 (.inl rfl), g1⟩, rfl⟩⟩
   show (Z6 600).b _ _ ((Z6 600).L f) some = _
   simp only [Z6]
   simp only [List.length_map, e2, zhV, q1]
  ·obtain ⟨y, r1, r2⟩ := ih (k + 1) f (by omega) (by omega)
   refine ⟨y, ?_, ?_⟩
   ·show (Z6 600).b _ _ ((Z6 600).L f) some = _
    generalize (Z6 600).L f = Lf at r1 |-
    simp only [Z6]
    simp only [List.length_map, e2, zhV, q1, zp (show k < 1000000 by omega)]
    exact r1
   ·rcases r2 with ⟨⟨p, h1, h2⟩, h3⟩ | ⟨h1, h2⟩
    ·exact .inl ⟨⟨p, (zt hkl _).2 (.inr h1), h2⟩, h3⟩
    ·refine .inr ⟨fun ⟨p, h, h'⟩ => ?_, h2⟩
     rcases (zt hkl _).1 h with e | e
     ·subst e; exact g1 h'
     ·exact h1 ⟨p, e, h'⟩
theorem zEE (P Q : List RT1) (hP : P.length <= 500) (hQ : Q.length <= 500) : ∃ b, zyG 600 (P.map zy, Q.map zy) = some b /\ (b = true ↔ Com P Q) := by
 obtain ⟨y, h1, h2⟩ := zzb P Q hP hQ P.length 0 600 (by omega) (by omega)
 replace h1 : (Z6 600).L 600 (P.map zy, Q.map zy, 0) = some y := h1
 rw [List.drop_zero] at h2
 simp only [zyG, FSpec.d, zlh, zwW, h1]
 rcases h2 with ⟨h2, rfl⟩ | ⟨h2, rfl⟩
 ·exact ⟨_, rfl, by simp [h2]⟩
 ·exact ⟨_, rfl, by simp [h2]⟩
theorem zCg (A B : List (List AV)) (P Q : List RT1) (i : Nat) (hi : i < P.length) (hA : A = P.map zy) (hB : B = Q.map zy) (hQ : Q.length <= 500) : ∀ (d k f : Nat), k + d = Q.length -> d < f -> ∃ y, (ZC 600).L f (A, B, (i : Int), (k : Int)) = some y /\ ((P[i] ∈ Q.drop k /\ y = .inl (A, B, true, (i : Int))) \/ (P[i] ∉ Q.drop k /\ y = .inr (A, B, (i : Int)))) := by
 subst hA hB
 intro d
 induction d with
 | zero =>
  intro k f hk hf
  obtain ⟨f, rfl⟩ := pS hf
  refine ⟨_, ?_, .inr ⟨by rw [List.drop_eq_nil_of_le (by omega)]; simp, rfl⟩⟩
  show (ZC 600).b _ _ ((ZC 600).L f) some = _
  simp only [ZC]
  have e2 : decide ((k : Int) < (Q.length : Int)) = false := dF (by omega)
  simp only [List.length_map, e2]
 | succ d ih =>
  intro k f hk hf
  obtain ⟨f, rfl⟩ := pS hf
  have hkl : k < Q.length := by omega
  have e2 : decide ((k : Int) < (Q.length : Int)) = true := dT (by omega)
  have e3 : (0 : Int) <= (k : Int) := by omega
  have e4 : (0 : Int) <= (i : Int) := by omega
  by_cases hc : P[i] = Q[k]
  ·refine ⟨_, ?_, .inl ⟨(zt hkl _).2 (.inl hc), rfl⟩⟩
   show (ZC 600).b _ _ ((ZC 600).L f) some = _
   simp only [ZC]
   have e5 : eqP P[i] Q[k] = true := by rw [hc]; exact JZ _
   simp only [List.length_map, e2, e3, e4, if_true, Int.toNat_natCast, zem Q k hkl, zem P i hi, Z0, e5]
  ·obtain ⟨y, r1, r2⟩ := ih (k + 1) f (by omega) (by omega)
   refine ⟨y, ?_, ?_⟩
   ·show (ZC 600).b _ _ ((ZC 600).L f) some = _
    generalize (ZC 600).L f = Lf at r1 |-
    simp only [ZC]
    have e5 : eqP P[i] Q[k] = false := zbd hc
    simp only [List.length_map, e2, e3, e4, if_true, Int.toNat_natCast, zem Q k hkl, zem P i hi, Z0, e5, zp (show k < 1000000 by omega)]
    exact r1
   ·rcases r2 with ⟨h1, h2⟩ | ⟨h1, h2⟩
    ·exact .inl ⟨(zt hkl _).2 (.inr h1), h2⟩
    ·exact .inr ⟨fun h => ((zt hkl _).1 h).elim hc h1, h2⟩
theorem zza (P Q : List RT1) (hP : P.length <= 500) (hQ : Q.length <= 500) : ∀ (d k f : Nat), k + d = P.length -> d < f -> ∃ y, (Z9 600).L f (P.map zy, Q.map zy, (k : Int)) = some y /\ ((Com (P.drop k) Q /\ y = .inl true) \/ (¬ Com (P.drop k) Q /\ y = .inr ())) := by
 intro d
 induction d with
 | zero =>
  intro k f hk hf
  obtain ⟨f, rfl⟩ := pS hf
  refine ⟨_, ?_, .inr ⟨by (rw [List.drop_eq_nil_of_le (by omega)]; rintro ⟨p, h, -⟩; cases h), rfl⟩⟩
  show (Z9 600).b _ _ ((Z9 600).L f) some = _
  simp only [Z9]
  have e2 : decide ((k : Int) < (P.length : Int)) = false := dF (by omega)
  simp only [List.length_map, e2]
 | succ d ih =>
  intro k f hk hf
  obtain ⟨f, rfl⟩ := pS hf
  have hkl : k < P.length := by omega
  have e2 : decide ((k : Int) < (P.length : Int)) = true := dT (by omega)
  obtain ⟨z, q1, q2⟩ := zCg _ _ P Q k hkl rfl rfl hQ Q.length 0 600 (by omega) (by omega)
  replace q1 : (ZC 600).L 600 (P.map zy, Q.map zy, (k : Int), 0) = some z := q1
  rw [List.drop_zero] at q2
  rcases q2 with ⟨g1, rfl⟩ | ⟨g1, rfl⟩
  ·refine ⟨_, ?_, .inl ⟨⟨P[k], (zt hkl _).2 (.inl rfl), g1⟩, rfl⟩⟩
   show (Z9 600).b _ _ ((Z9 600).L f) some = _
   simp only [Z9]
   simp only [List.length_map, e2, zhZ, q1]
  ·obtain ⟨y, r1, r2⟩ := ih (k + 1) f (by omega) (by omega)
   refine ⟨y, ?_, ?_⟩
   ·show (Z9 600).b _ _ ((Z9 600).L f) some = _
    generalize (Z9 600).L f = Lf at r1 |-
    simp only [Z9]
    simp only [List.length_map, e2, zhZ, q1, zp (show k < 1000000 by omega)]
    exact r1
   ·rcases r2 with ⟨⟨p, h1, h2⟩, h3⟩ | ⟨h1, h2⟩
    ·exact .inl ⟨⟨p, (zt hkl _).2 (.inr h1), h2⟩, h3⟩
    ·refine .inr ⟨fun ⟨p, h, h'⟩ => ?_, h2⟩
     rcases (zt hkl _).1 h with e | e
     ·subst e; exact g1 h'
     ·exact h1 ⟨p, e, h'⟩
theorem zEF (P Q : List RT1) (hP : P.length <= 500) (hQ : Q.length <= 500) : ∃ b, ztR 600 (P.map zy, Q.map zy) = some b /\ (b = true ↔ Com P Q) := by
 obtain ⟨y, h1, h2⟩ := zza P Q hP hQ P.length 0 600 (by omega) (by omega)
 replace h1 : (Z9 600).L 600 (P.map zy, Q.map zy, 0) = some y := h1
 rw [List.drop_zero] at h2
 simp only [ztR, FSpec.d, zlr, zw3, h1]
 rcases h2 with ⟨h2, rfl⟩ | ⟨h2, rfl⟩
 ·exact ⟨_, rfl, by simp [h2]⟩
 ·exact ⟨_, rfl, by simp [h2]⟩
end Go.Proofs.YthdgnfcbehcplaaGreatDoor
end
section
namespace Go.Proofs.YthdgnfcbehcplaaGreatDoor
theorem pk0 (e : RT0) : (((zB e).drop 9).drop 0)[0]? = some (AV.list 9 (pkE e) none) := rfl
theorem zC5 (xs : List (List AV)) : jf 9 (AV.list 9 xs none) = some xs := by simp [jf]
theorem zlH (A : List RT0) (P : List RT1) (i : Nat) (hi : i <= A.length) (hA : A.length <= 500) (hP : P.length <= 500) (h : ∀ k (h : k < A.length), k < i -> ∃ Q : List RT1, Q.length <= 500 /\ pkE A[k] = Q.map zy /\ ¬ Com P Q) : ∀ (d k f : Nat), k + d = i -> d < f -> (ZT 600).L f (A.map zB, P.map zy, (i : Int), (k : Int)) = some (.inr (A.map zB, (i : Int))) := by
 intro d
 induction d with
 | zero =>
  intro k f hk hf
  obtain ⟨f, rfl⟩ := pS hf
  show (ZT 600).b _ _ ((ZT 600).L f) some = _
  simp only [ZT]
  have e2 : decide ((k : Int) < (i : Int)) = false := dF (by omega)
  simp only [e2]
 | succ d ih =>
  intro k f hk hf
  obtain ⟨f, rfl⟩ := pS hf
  have hkl : k < A.length := by omega
  have e2 : decide ((k : Int) < (i : Int)) = true := dT (by omega)
  have e3 : (0 : Int) <= (k : Int) := by omega
  obtain ⟨Q, q1, q2, q3⟩ := h k hkl (by omega)
  obtain ⟨b, b1, b2⟩ := zEE P Q hP q1
  obtain rfl : b = false := by cases b with | false => rfl | true => exact absurd (b2.1 rfl) q3
  have r1 := ih (k + 1) f (by omega) (by omega)
  show (ZT 600).b _ _ ((ZT 600).L f) some = _
  generalize (ZT 600).L f = Lf at r1 |-
  simp only [ZT]
  simp only [e2, e3, if_true, Int.toNat_natCast, zcv A k hkl, pk0, zC5, q2, b1, zp (show k < 1000000 by omega)]
  exact r1
theorem zdT (A : List RT0) (hA : A.length <= 5) : ∀ (R : List RT0) (k lo f : Nat), A.drop k = R -> R.length < f -> k + R.length = A.length -> Evs lo 5 R -> (∀ j (h : j < A.length), j < k -> ∃ n, n < lo /\ EvAt n A[j]) ->
  (jH 600).L f (A.map zB, (k : Int)) = some (.inr ())
 | [], k, lo, f, hR, hf, hk, hE, hN => by
  obtain ⟨f, rfl⟩ := pS hf
  show (jH 600).b _ _ ((jH 600).L f) some = _
  simp only [jH]
  have e2 : decide ((k : Int) < (A.length : Int)) = false := by rw [decide_eq_false_iff_not]; simp at hk; omega
  simp only [List.length_map, e2]
 | e :: R, k, lo, f, hR, hf, hk, hE, hN => by
  obtain ⟨f, rfl⟩ := pS hf
  rw [List.length_cons] at hf hk
  have hkl : k < A.length := by omega
  have hek : A[k] = e := by
   have := List.drop_eq_getElem_cons hkl
   rw [hR] at this
   exact (List.cons.inj this).1.symm
  obtain ⟨n, hn, hev, hE'⟩ := hE
  have hn5 := zdC hE'
  have r1 := zdT A hA R (k + 1) (n + 1) f (by rw [<- List.tail_drop, hR]; rfl) (by omega) (by omega) hE' (fun j h hj => by
   by_cases hc : j = k
   ·subst hc; exact ⟨n, by omega, by rw [hek]; exact hev⟩
   ·obtain ⟨m, h1, h2⟩ := hN j h (by omega); exact ⟨m, by omega, h2⟩)
  obtain ⟨g, c, c1, c2, c3, c4, c5, c6⟩ := hev
  have e2 : decide ((k : Int) < (A.length : Int)) = true := dT (by omega)
  have e3 : (0 : Int) <= (k : Int) := by omega
  have s1 := zvF n g c (by omega) c1 c2 c3
  have s2 := zvH n g c (by omega) c1 c2 c3
  have s3 := zvG n g c (by omega) c1 c2 c3
  have sl := zlH A (pks n g c) k (by omega) (by omega) (by rw [Ju]; omega) (fun j h hj => by
   obtain ⟨m, h1, g', c', z1, z2, z3, z4, z5, z6⟩ := hN j h hj
   refine ⟨pks m g' c', by rw [Ju]; omega, z5, fun ⟨p, q1, q2⟩ => ?_⟩
   have t1 := (zjS c2 p q1).1
   have t2 := (zjS z2 p q2).2
   omega) k 0 600 (by omega) (by omega)
  replace sl : (ZT 600).L 600 (A.map zB, (pks n g c).map zy, (k : Int), 0) = some (.inr (A.map zB, (k : Int))) := sl
  have e4 : (((pks n g c).length : Int) == 0) = false := by rw [Ju]; simp; omega
  have e5 : eqP (nmE e) (pick n g) = true := by rw [c4]; exact JZ _
  show (jH 600).b _ _ ((jH 600).L f) some = _
  generalize (jH 600).L f = Lf at r1 |-
  simp only [jH]
  simp only [List.length_map, e2, e3, if_true, Int.toNat_natCast, zcv A k hkl, hek, pk0, zC5, c5, e4, nm0, s1, s2, s3, e5, Bool.not_true]
  by_cases hk0 : (k : Int) > 0
  ·have hk1 : i64 ((k : Int) - 1) = ((k - 1 : Nat) : Int) := by rw [Zr (by omega)]; omega
   obtain ⟨n', z0, g', c', z1, z2, z3, z4, z5, z6⟩ := hN (k - 1) (by omega) (by omega)
   have hl := (zqD n' n g' g (by omega) (by omega) z3 c3).2
   rw [<- c4] at hl
   rw [<- z4] at hl
   have e6 : decide ((-1 : Int) >= 0) = false := by decide
   have e7 : (0 : Int) <= ((k - 1 : Nat) : Int) := by omega
   simp only [hk0, decide_true, hk1, e7, if_true, Int.toNat_natCast, zcv A (k - 1) (by omega), nm0, hl, e6, zfs, sl, zp (show k < 1000000 by omega)]
   exact r1
  ·simp only [hk0, decide_false, zfs, sl, zp (show k < 1000000 by omega)]
   exact r1
theorem zcg {A : List RT0} {m : Nat} (hm : m <= 5) (h : Evs 0 m A) : zfr 600 (A.map zB) = some true := by
 have hl := zdC h
 have := zdT A (by omega) A 0 0 600 rfl (by omega) (by omega) (h.mono hm) (fun j _ hj => by omega)
 replace this : (jH 600).L 600 (A.map zB, 0) = some (.inr ()) := this
 simp only [zfr, FSpec.d, zkK, zwu, this]
end Go.Proofs.YthdgnfcbehcplaaGreatDoor
end
section
namespace Go.Proofs.YthdgnfcbehcplaaGreatDoor
theorem jP : zpQ 600 () = some true := by kernel_rfl
theorem f8a (N : Nat) (x) : ZG N x = jU N x := by kernel_rfl
theorem f7a (N : Nat) (x) : zv5 N x = zxN N x := by kernel_rfl
theorem f9a (N : Nat) (x) : zi2 N x = zgv N x := by kernel_rfl
@[reducible] def kdV (v : RT7) : Int := v.1
@[reducible] def atV (v : RT7) : Int := v.2.1
@[reducible] def byV (v : RT7) : ByteArray := v.2.2.1
@[reducible] def inV (v : RT7) : Int := v.2.2.2.1
@[reducible] def evV (v : RT7) : RT0 := v.2.2.2.2
def zfa (x : List RT7) : List AV := [AV.list 29 (x.map zK) none]
def zD (C : List (List RT7)) : List (List AV) := C.map zfa
theorem zS (C : List (List RT7)) : (zD C).length = C.length := by simp [zD]
theorem zV (C : List (List RT7)) (k : Nat) (h : k < C.length) : (zD C)[k]? = some (zfa C[k]) := by simp [zD, h]
theorem zzW (x : List RT7) : zgc (zfa x) = some (x.map zK, ()) := by
 show dec RK6 [AV.list 29 (x.map zK) none] = _
 simp only [dec, zqg, jf, if_true]
theorem zhv (x : List RT7) : ((zfa x).drop 0)[0]? = some (AV.list 29 (x.map zK) none) := rfl
theorem zqG (xs : List (List AV)) : jf 29 (AV.list 29 xs none) = some xs := by simp [jf]
theorem zqs (P : List RT7) (k : Nat) (h : k < P.length) : (P.map zK)[k]? = some (zK P[k]) := by simp [h]
theorem rd7 (v : RT7) : zlD (zK v) = some v := zyY v
def ann : ByteArray := ⟨#[97, 110, 110]⟩
def bob : ByteArray := ⟨#[98, 111, 98]⟩
def nob : ByteArray := ⟨#[]⟩
def Per (b : ByteArray) : Prop := b = ann \/ b = bob
theorem zjQ {b : ByteArray} (h : Per b) : zt5 600 b = some true /\ ztW 600 b = some true /\ (b.toList == nob.toList) = false := by
 rcases h with rfl | rfl
 ·exact ⟨by kernel_rfl, by kernel_rfl, by kernel_rfl⟩
 ·exact ⟨by kernel_rfl, by kernel_rfl, by kernel_rfl⟩
def jB (k : Int) : Bool := k == 1 || (k == 2 || k == 6)
def JF (k : Int) : Bool := k == 1 || (k == 3 || k == 6)
def zCm (k u : Int) : Bool := if k = 1 then jB u else if k = 2 then (u == 1 || u == 6) else if k = 6 then !(jB u) else true
def za0 (k : Int) : Bool := k != 1 && k != 3
theorem zqM (N : Nat) (v : RT7) : zhT N v = some (jB (kdV v)) := by
 simp only [zhT, FSpec.d, zlb, jB]
 cases v.1 == 1 <;> cases v.1 == 2 <;> cases v.1 == 6 <;> rfl
theorem zzZ (N : Nat) (v : RT7) : zyz N v = some (JF (kdV v)) := by
 simp only [zyz, FSpec.d, zla, JF]
 cases v.1 == 1 <;> cases v.1 == 3 <;> cases v.1 == 6 <;> rfl
theorem zCn (N : Nat) (v u : RT7) : zly N (v, u) = some (zCm (kdV v) (kdV u)) := by
 simp only [zly, FSpec.d, zlz, zCm, zqM]
 by_cases h1 : v.1 = 1
 ·simp [h1]
 ·by_cases h2 : v.1 = 2
  ·simp [h2]
   cases u.1 == 1 <;> simp
  ·by_cases h6 : v.1 = 6
   ·simp [h6]
   ·have e1 : (v.1 == 1) = false := by simpa using h1
    have e2 : (v.1 == 2) = false := by simpa using h2
    have e6 : (v.1 == 6) = false := by simpa using h6
    simp only [e1, e2, e6, if_neg h1, if_neg h2, if_neg h6]
theorem zqA (N : Nat) (k : Int) : zh0 N k = some (za0 k) := by
 simp only [zh0, FSpec.d, zlu, za0]
 cases k != 1 <;> simp
def Kd6 (k : Int) : Prop := k = 1 \/ k = 2 \/ k = 3 \/ k = 4 \/ k = 5 \/ k = 6
theorem zxD {k : Int} (h : Kd6 k) : zsS 600 k = some (jB k) := by
 rcases h with rfl | rfl | rfl | rfl | rfl | rfl <;> kernel_rfl
theorem zvP {k : Int} (h : Kd6 k) : ((gtab3.map AV.v).drop (k.toNat * 1))[0]? = some (.v (.bool (k == 1 || k == 2))) := by
 rcases h with rfl | rfl | rfl | rfl | rfl | rfl <;> kernel_rfl
theorem zjY {k : Int} (h : Kd6 k) : ((gtab2.map AV.v).drop (k.toNat * 1))[0]? = some (.v (.bool (za0 k))) := by
 rcases h with rfl | rfl | rfl | rfl | rfl | rfl <;> kernel_rfl
theorem zjZ {k : Int} (h : Kd6 k) : ((gtab0.map AV.v).drop (k.toNat * 1))[0]? = some (.v (.bool (JF k))) := by
 rcases h with rfl | rfl | rfl | rfl | rfl | rfl <;> kernel_rfl
theorem zz4 {k u : Int} (h : Kd6 k) (hu : Kd6 u) : (((gtab1.map AV.v).drop (k.toNat * 7)).drop (u.toNat * 1))[0]? = some (.v (.bool (zCm k u))) := by
 rcases h with rfl | rfl | rfl | rfl | rfl | rfl <;> rcases hu with rfl | rfl | rfl | rfl | rfl | rfl <;> kernel_rfl
theorem Kd6.lt {k : Int} (h : Kd6 k) : 0 <= k /\ k < 7 /\ 1 <= k /\ k <= 6 := by unfold Kd6 at h; omega
def EvN (e : RT0) : Prop := ∃ n, n < 5 /\ EvAt n e
theorem EvN.one {e : RT0} (h : EvN e) : Evs 0 5 [e] := by
 obtain ⟨n, h1, h2⟩ := h
 exact ⟨n, Nat.zero_le _, h2, by show n + 1 <= 5; omega⟩
theorem zy2 {e : RT0} (h : EvN e) : zfr 600 [zB e] = some true := zcg (A := [e]) (by omega) h.one
theorem zy1 {e : RT0} (h : EvN e) : zhQ 600 [zB e] = some true := zaY (A := [e]) (by omega) h.one
theorem Evs.evn {E : List RT0} {m : Nat} (hm : m <= 5) (h : Evs 0 m E) : ∀ e ∈ E, EvN e := fun e he => by
 obtain ⟨n, _, h2, h3⟩ := h.all e he
 exact ⟨n, by omega, h3⟩
end Go.Proofs.YthdgnfcbehcplaaGreatDoor
end
section
namespace Go.Proofs.YthdgnfcbehcplaaGreatDoor
theorem zcM {P Q : List RT1} (h : P.map zy = Q.map zy) : P = Q := by
 have hi : ∀ a b : RT1, zy a = zy b -> a = b := fun a b h => by
  have := congrArg Jv h
  rw [Z0, Z0] at this
  exact Option.some.inj this
 induction P generalizing Q with
 | nil => cases Q with
  | nil => rfl
  | cons q Q => cases h
 | cons p P ih => cases Q with
  | nil => cases h
  | cons q Q =>
   simp only [List.map_cons, List.cons.injEq] at h
   rw [hi p q h.1, ih h.2]
theorem zxt {a e : RT0} (h1 : nmE a = nmE e) (h2 : zH a = zH e) : a = e := by
 have e1 : ∀ x : RT0, x = ((nmE x).1, (nmE x).2.1, (nmE x).2.2.1, (nmE x).2.2.2.1, (nmE x).2.2.2.2.1, (nmE x).2.2.2.2.2.1, (nmE x).2.2.2.2.2.2.1, (nmE x).2.2.2.2.2.2.2.1, (nmE x).2.2.2.2.2.2.2.2.1, zH x) := fun x => rfl
 rw [e1 a, e1 e, h1, h2]
theorem zzT (P Q : List RT1) (hl : P.length = Q.length) (hP : P.length <= 500) : ∀ (d k f : Nat), k + d = P.length -> d < f -> ∃ y, (Z5 600).L f (P.map zy, Q.map zy, (k : Int)) = some y /\ ((P.drop k = Q.drop k /\ y = .inr ()) \/ (P.drop k ≠ Q.drop k /\ y = .inl false)) := by
 intro d
 induction d with
 | zero =>
  intro k f hk hf
  obtain ⟨f, rfl⟩ := pS hf
  refine ⟨_, ?_, .inl ⟨by rw [List.drop_eq_nil_of_le (by omega), List.drop_eq_nil_of_le (by omega)], rfl⟩⟩
  show (Z5 600).b _ _ ((Z5 600).L f) some = _
  simp only [Z5]
  have e2 : decide ((k : Int) < (P.length : Int)) = false := dF (by omega)
  simp only [List.length_map, e2]
 | succ d ih =>
  intro k f hk hf
  obtain ⟨f, rfl⟩ := pS hf
  have hkl : k < P.length := by omega
  have hkq : k < Q.length := by omega
  have e2 : decide ((k : Int) < (P.length : Int)) = true := dT (by omega)
  have h0 : 0 <= (k : Int) := by omega
  have dP := List.drop_eq_getElem_cons hkl
  have dQ := List.drop_eq_getElem_cons hkq
  by_cases he : P[k] = Q[k]
  ·obtain ⟨y, r1, r2⟩ := ih (k + 1) f (by omega) (by omega)
   refine ⟨y, ?_, ?_⟩
   ·show (Z5 600).b _ _ ((Z5 600).L f) some = _
    generalize (Z5 600).L f = Lf at r1 |-
    simp only [Z5]
    have ee := JZ P[k]
    simp only [eqP] at ee
    simp only [List.length_map, e2, h0, if_true, Int.toNat_natCast, zem P k hkl, zem Q k hkq, Z0, <- he, ee, Bool.not_true, zp (show k < 1000000 by omega)]
    exact r1
   ·rw [dP, dQ, he]
    rcases r2 with ⟨a, b⟩ | ⟨a, b⟩
    ·exact .inl ⟨by rw [a], b⟩
    ·exact .inr ⟨fun e => a (by injection e), b⟩
  ·refine ⟨_, ?_, .inr ⟨fun e => he (by rw [dP, dQ] at e; injection e), rfl⟩⟩
   show (Z5 600).b _ _ ((Z5 600).L f) some = _
   simp only [Z5]
   have ee := zbd he
   simp only [eqP] at ee
   simp only [List.length_map, e2, h0, if_true, Int.toNat_natCast, zem P k hkl, zem Q k hkq, Z0, ee, Bool.not_false]
theorem zET (P Q : List RT1) (hP : P.length <= 500) (hQ : Q.length <= 500) : ∃ b, zhU 600 (P.map zy, Q.map zy) = some b /\ (b = true ↔ P = Q) := by
 simp only [zhU, FSpec.d, zle, List.length_map]
 by_cases hl : P.length = Q.length
 ·have e1 : ((P.length : Int) != (Q.length : Int)) = false := by simp [hl]
  obtain ⟨y, h1, h2⟩ := zzT P Q hl hP P.length 0 600 (by omega) (by omega)
  replace h1 : (Z5 600).L 600 (P.map zy, Q.map zy, 0) = some y := h1
  simp only [e1, zwU, h1]
  rw [List.drop_zero, List.drop_zero] at h2
  rcases h2 with ⟨a, rfl⟩ | ⟨a, rfl⟩
  ·exact ⟨_, rfl, by simp [a]⟩
  ·exact ⟨_, rfl, by simp [a]⟩
 ·have e1 : ((P.length : Int) != (Q.length : Int)) = true := by simp; omega
  have : P ≠ Q := fun e => hl (by rw [e])
  simp only [e1]
  exact ⟨_, rfl, by simp [this]⟩
theorem zzK (P Q : List RT1) (hl : P.length = Q.length) (hP : P.length <= 500) : ∀ (d k f : Nat), k + d = P.length -> d < f -> ∃ y, (Zz 600).L f (P.map zy, Q.map zy, (P.length : Int), (k : Int)) = some y /\ ((P.drop k = Q.drop k /\ y = .inr ()) \/ (P.drop k ≠ Q.drop k /\ y = .inl false)) := by
 intro d
 induction d with
 | zero =>
  intro k f hk hf
  obtain ⟨f, rfl⟩ := pS hf
  refine ⟨_, ?_, .inl ⟨by rw [List.drop_eq_nil_of_le (by omega), List.drop_eq_nil_of_le (by omega)], rfl⟩⟩
  show (Zz 600).b _ _ ((Zz 600).L f) some = _
  simp only [Zz]
  have e2 : decide ((k : Int) < (P.length : Int)) = false := dF (by omega)
  simp only [List.length_map, e2]
 | succ d ih =>
  intro k f hk hf
  obtain ⟨f, rfl⟩ := pS hf
  have hkl : k < P.length := by omega
  have hkq : k < Q.length := by omega
  have e2 : decide ((k : Int) < (P.length : Int)) = true := dT (by omega)
  have h0 : 0 <= (k : Int) := by omega
  have dP := List.drop_eq_getElem_cons hkl
  have dQ := List.drop_eq_getElem_cons hkq
  by_cases he : P[k] = Q[k]
  ·obtain ⟨y, r1, r2⟩ := ih (k + 1) f (by omega) (by omega)
   refine ⟨y, ?_, ?_⟩
   ·show (Zz 600).b _ _ ((Zz 600).L f) some = _
    generalize (Zz 600).L f = Lf at r1 |-
    simp only [Zz]
    have ee := JZ P[k]
    simp only [eqP] at ee
    simp only [List.length_map, e2, h0, if_true, Int.toNat_natCast, zem P k hkl, zem Q k hkq, Z0, <- he, ee, Bool.not_true, zp (show k < 1000000 by omega)]
    exact r1
   ·rw [dP, dQ, he]
    rcases r2 with ⟨a, b⟩ | ⟨a, b⟩
    ·exact .inl ⟨by rw [a], b⟩
    ·exact .inr ⟨fun e => a (by injection e), b⟩
  ·refine ⟨_, ?_, .inr ⟨fun e => he (by rw [dP, dQ] at e; injection e), rfl⟩⟩
   show (Zz 600).b _ _ ((Zz 600).L f) some = _
   simp only [Zz]
   have ee := zbd he
   simp only [eqP] at ee
   simp only [List.length_map, e2, h0, if_true, Int.toNat_natCast, zem P k hkl, zem Q k hkq, Z0, ee, Bool.not_false]
theorem zEP (P Q : List RT1) (hP : P.length <= 500) (hQ : Q.length <= 500) : ∃ b, zgn 600 (P.map zy, Q.map zy) = some b /\ (b = true ↔ P = Q) := by
 simp only [zgn, FSpec.d, zex, List.length_map]
 by_cases hl : P.length = Q.length
 ·have e1 : ((P.length : Int) != (Q.length : Int)) = false := by simp [hl]
  obtain ⟨y, h1, h2⟩ := zzK P Q hl hP P.length 0 600 (by omega) (by omega)
  replace h1 : (Zz 600).L 600 (P.map zy, Q.map zy, (P.length : Int), 0) = some y := h1
  simp only [e1, zm4, h1]
  rw [List.drop_zero, List.drop_zero] at h2
  rcases h2 with ⟨a, rfl⟩ | ⟨a, rfl⟩
  ·exact ⟨_, rfl, by simp [a]⟩
  ·exact ⟨_, rfl, by simp [a]⟩
 ·have e1 : ((P.length : Int) != (Q.length : Int)) = true := by simp; omega
  have : P ≠ Q := fun e => hl (by rw [e])
  simp only [e1]
  exact ⟨_, rfl, by simp [this]⟩
theorem zjU (a e : RT0) (ha : zaG a) (he : zaG e) : ∃ b, zs2 600 (zH a, zH e) = some b /\ (b = true ↔ (zH a) = (zH e)) := by
 obtain ⟨P, hP1, hP⟩ := ha
 obtain ⟨Q, hQ1, hQ⟩ := he
 obtain ⟨b, h1, h2⟩ := zET P Q (by omega) (by omega)
 have h3 : zhU 600 ((zH a).1, (zH e).1) = some b := by
  show zhU 600 (pkE a, pkE e) = some b
  rw [hP, hQ]; exact h1
 have hpq : (zH a).1 = (zH e).1 ↔ P = Q := by
  show pkE a = pkE e ↔ P = Q
  rw [hP, hQ]
  exact ⟨fun h => zcM h, fun h => by rw [h]⟩
 generalize zH a = A at *
 generalize zH e = E at *
 simp only [zs2, FSpec.d, zk8, h3]
 cases b with
 | false => exact ⟨_, rfl, by
   constructor
   ·intro h; cases h
   ·intro h; exact absurd (h2.2 (hpq.1 (by rw [h]))) (by simp)⟩
 | true =>
  have hpe : A.1 = E.1 := hpq.2 (h2.1 rfl)
  simp only
  split
  ·rename_i c1
   split
   ·rename_i c2
    refine ⟨_, rfl, ⟨fun h => ?_, fun h => (by rw [h]; simp)⟩⟩
    simp only [Bool.and_eq_true, beq_iff_eq, and_true] at c1 c2 h
    simp [Prod.ext_iff, *]
   ·rename_i c2
    refine ⟨_, rfl, ⟨fun h => (by cases h), fun h => ?_⟩⟩
    rw [h] at c2; simp at c2
  ·rename_i c1
   refine ⟨_, rfl, ⟨fun h => (by cases h), fun h => ?_⟩⟩
   rw [h] at c1; simp at c1
theorem zf6 (a e : RT0) (ha : zaG a) (he : zaG e) : ∃ b, zc6 600 (a, e) = some b /\ (b = true ↔ a = e) := by
 obtain ⟨b, h1, h2⟩ := zjU a e ha he
 simp only [zc6, FSpec.d, zkY, h1]
 have hae : a = e ↔ nmE a = nmE e /\ zH a = zH e := ⟨fun h => by rw [h]; exact ⟨rfl, rfl⟩, fun ⟨x, y⟩ => zxt x y⟩
 by_cases hn : nmE a = nmE e
 ·have ee := (congrArg (eqP (nmE a)) hn).symm.trans (JZ (nmE a))
  simp only [eqP] at ee
  simp only [ee]
  exact ⟨b, rfl, by rw [h2, hae]; exact ⟨fun h => ⟨hn, h⟩, fun h => h.2⟩⟩
 ·have ee := zbd hn
  simp only [eqP] at ee
  simp only [ee]
  exact ⟨_, rfl, by rw [hae]; simp [hn]⟩
theorem zvu (a e : RT0) (ha : zaG a) (he : zaG e) : ∃ b, zmE 600 (zH a, zH e) = some b /\ (b = true ↔ (zH a) = (zH e)) := by
 obtain ⟨P, hP1, hP⟩ := ha
 obtain ⟨Q, hQ1, hQ⟩ := he
 obtain ⟨b, h1, h2⟩ := zEP P Q (by omega) (by omega)
 have h3 : zgn 600 ((zH a).1, (zH e).1) = some b := by
  show zgn 600 (pkE a, pkE e) = some b
  rw [hP, hQ]; exact h1
 have hpq : (zH a).1 = (zH e).1 ↔ P = Q := by
  show pkE a = pkE e ↔ P = Q
  rw [hP, hQ]
  exact ⟨fun h => zcM h, fun h => by rw [h]⟩
 generalize zH a = A at *
 generalize zH e = E at *
 simp only [zmE, FSpec.d, zeu, h3]
 cases b with
 | false => exact ⟨_, rfl, by
   constructor
   ·intro h; cases h
   ·intro h; exact absurd (h2.2 (hpq.1 (by rw [h]))) (by simp)⟩
 | true =>
  have hpe : A.1 = E.1 := hpq.2 (h2.1 rfl)
  simp only
  split
  ·rename_i c1
   split
   ·rename_i c2
    refine ⟨_, rfl, ⟨fun h => ?_, fun h => (by rw [h]; simp)⟩⟩
    simp only [Bool.and_eq_true, beq_iff_eq, and_true] at c1 c2 h
    simp [Prod.ext_iff, *]
   ·rename_i c2
    refine ⟨_, rfl, ⟨fun h => (by cases h), fun h => ?_⟩⟩
    rw [h] at c2; simp at c2
  ·rename_i c1
   refine ⟨_, rfl, ⟨fun h => (by cases h), fun h => ?_⟩⟩
   rw [h] at c1; simp at c1
theorem zzL (a e : RT0) (ha : zaG a) (he : zaG e) : ∃ b, zmA 600 (a, e) = some b /\ (b = true ↔ a = e) := by
 obtain ⟨b, h1, h2⟩ := zvu a e ha he
 simp only [zmA, FSpec.d, zet, h1]
 have hae : a = e ↔ nmE a = nmE e /\ zH a = zH e := ⟨fun h => by rw [h]; exact ⟨rfl, rfl⟩, fun ⟨x, y⟩ => zxt x y⟩
 by_cases hn : nmE a = nmE e
 ·have ee := (congrArg (eqP (nmE a)) hn).symm.trans (JZ (nmE a))
  simp only [eqP] at ee
  simp only [ee]
  exact ⟨b, rfl, by rw [h2, hae]; exact ⟨fun h => ⟨hn, h⟩, fun h => h.2⟩⟩
 ·have ee := zbd hn
  simp only [eqP] at ee
  simp only [ee]
  exact ⟨_, rfl, by rw [hae]; simp [hn]⟩
theorem zjy (a e : RT0) (ha : zaG a) (he : zaG e) : ∃ b, zk4 600 (a, e) = some b /\ (b = true ↔ a = e) := by
 obtain ⟨b, h1, h2⟩ := zzL a e ha he
 have hL : zhI 600 ([zB e], [zB a], 1, 0) = some (bif b then .inr () else .inl false) := by
  show (ZQ 600).b _ _ ((ZQ 600).L 599) some = _
  have e1 : decide ((0 : Int) < 1) = true := by decide
  have e3 : i64 (0 + 1) = 1 := by decide
  obtain ⟨Lf, hLf⟩ : ∃ Lf, Lf = (ZQ 600).L 599 := ⟨_, rfl⟩
  have hz : Lf ([zB e], [zB a], 1, 1) = some (.inr ()) := by
   rw [hLf]
   show (ZQ 600).b _ _ ((ZQ 600).L 598) some = _
   simp only [ZQ]
   have e2 : decide ((1 : Int) < 1) = false := by decide
   simp only [e2]
  rw [<- hLf]
  simp only [ZQ]
  simp only [e1, Int.le_refl, if_true, Int.toNat_zero, List.getElem?_cons_zero, ZL, h1]
  cases b with
  | true => simp only [Bool.not_true, e3, hz]; rfl
  | false => simp only [Bool.not_false]; rfl
 refine ⟨b, ?_, h2⟩
 simp only [zk4, FSpec.d, zk5, zBQ, zlw, zvY, zaz, List.length_cons, List.length_nil]
 have e0 : (((0 + 1 : Nat) : Int) != ((0 + 1 : Nat) : Int)) = false := by decide
 simp only [e0]
 have hL' : zhI 600 ([zB e], [zB a], ((0 + 1 : Nat) : Int), 0) = some (bif b then .inr () else .inl false) := hL
 simp only [hL']
 cases b <;> rfl
theorem EvN.pk {e : RT0} (h : EvN e) : zaG e := by
 obtain ⟨n, _, h⟩ := h
 exact h.pk
end Go.Proofs.YthdgnfcbehcplaaGreatDoor
end
section
namespace Go.Proofs.YthdgnfcbehcplaaGreatDoor
structure EvG (e : RT0) : Prop where
 rv : zfr 600 [zB e] = some true
 pv : zhQ 600 [zB e] = some true
 pk : zaG e
theorem EvN.g {e : RT0} (h : EvN e) : EvG e := ⟨zy2 h, zy1 h, h.pk⟩
theorem EvG.pv' {e : RT0} (h : EvG e) : zls 600 e = some true := by
 have := h.pv
 simp only [zls, FSpec.d, zlt]
 simp only [this]
structure VG (T : Int) (n i : Nat) (v : RT7) : Prop where
 kd : Kd6 (kdV v)
 at0 : 0 <= atV v
 atT : atV v <= T
 by1 : (kdV v = 1 \/ kdV v = 2) -> byV v = nob
 by2 : ¬ (kdV v = 1 \/ kdV v = 2) -> Per (byV v)
 in1 : kdV v ≠ 5 -> inV v = 0
 in2 : kdV v = 5 -> 0 <= inV v /\ inV v < n /\ inV v ≠ i
 ev : EvG (evV v)
def Stp (u v : RT7) : Prop := atV u <= atV v /\ zCm (kdV v) (kdV u) = true /\ (za0 (kdV v) = true -> evV u = evV v)
structure XG (T : Int) (n i m : Nat) (x : List RT7) : Prop where
 ne : x ≠ []
 hd : ∀ h : 0 < x.length, kdV x[0] = 1
 vs : ∀ k (h : k < x.length), VG T n i x[k]
 st : ∀ k (h : k + 1 < x.length), Stp x[k] x[k + 1]
 le : x.length <= m
structure CG (T : Int) (m e : Nat) (C : List (List RT7)) : Prop where
 xs : ∀ k (h : k < C.length), XG T C.length k m C[k]
 le : C.length <= e
theorem VG.mono {T T' : Int} {n n' i : Nat} {v : RT7} (h : VG T n i v) (hT : T <= T') (hn : n <= n') : VG T' n' i v :=
 ⟨h.kd, h.at0, Int.le_trans h.atT hT, h.by1, h.by2, h.in1, fun e => by have := h.in2 e; omega, h.ev⟩
theorem XG.mono {T T' : Int} {n n' i m m' : Nat} {x : List RT7} (h : XG T n i m x) (hT : T <= T') (hn : n <= n') (hm : m <= m') : XG T' n' i m' x :=
 ⟨h.ne, h.hd, fun k hk => (h.vs k hk).mono hT hn, h.st, Nat.le_trans h.le hm⟩
theorem CG.mono {T T' : Int} {m m' e e' : Nat} {C : List (List RT7)} (h : CG T m e C) (hT : T <= T') (hm : m <= m') (he : e <= e') : CG T' m' e' C :=
 ⟨fun k hk => (h.xs k hk).mono hT (Nat.le_refl _) hm, Nat.le_trans h.le he⟩
theorem XG.pos {T : Int} {n i m : Nat} {x : List RT7} (h : XG T n i m x) : 0 < x.length := List.length_pos_iff.2 h.ne
theorem XG.snoc {T T' : Int} {n i m : Nat} {x : List RT7} {v : RT7} (h : XG T n i m x) (hT : T <= T') (hv : VG T' n i v) (hs : Stp (x.getLast h.ne) v) : XG T' n i (m + 1) (x ++ [v]) := by
 have hp := h.pos
 refine ⟨by simp, fun _ => ?_, fun k hk => ?_, fun k hk => ?_, by have := h.le; simp; omega⟩
 ·rw [List.getElem_append_left hp]; exact h.hd hp
 ·rw [List.getElem_append]
  split
  ·exact (h.vs k _).mono hT (Nat.le_refl _)
  ·simpa using hv
 ·simp at hk
  by_cases hl : k + 1 < x.length
  ·rw [List.getElem_append_left hl, List.getElem_append_left (by omega)]
   exact h.st k hl
  ·have e : k = x.length - 1 := by omega
   subst e
   rw [List.getLast_eq_getElem] at hs
   rw [List.getElem_append_left (by omega), List.getElem_append_right (by omega)]
   simpa using hs
theorem XG.one {T : Int} {n i m : Nat} {v : RT7} (hm : 1 <= m) (hv : VG T n i v) (h1 : kdV v = 1) : XG T n i m [v] :=
 ⟨by simp, fun _ => h1, fun k hk => by simp at hk; subst hk; exact hv, fun k hk => by simp at hk, hm⟩
theorem CG.set {T T' : Int} {m e i : Nat} {C : List (List RT7)} (h : CG T m e C) (hi : i < C.length) (hT : T <= T') {v : RT7} (hv : VG T' C.length i v) (hs : Stp (C[i].getLast (h.xs i hi).ne) v) : CG T' (m + 1) e (C.set i (C[i] ++ [v])) := by
 refine ⟨fun k hk => ?_, by simpa using h.le⟩
 simp at hk
 rw [List.length_set, List.getElem_set]
 split
 ·rename_i he; subst he; exact (h.xs i hi).snoc hT hv hs
 ·exact (h.xs k hk).mono hT (Nat.le_refl _) (by omega)
theorem CG.nil (T : Int) (m e : Nat) : CG T m e [] := ⟨fun k h => by simp at h, Nat.zero_le _⟩
theorem zCZ {T : Int} {n i : Nat} {v : RT7} (h : VG T n i v) (k : Int) (X : List (List AV)) : zoT 600 ((i : Int), (n : Int), k, X, v) = some (.inr ((i : Int), (n : Int), k, X, v)) := by
 obtain ⟨hk, h0, hT, hb1, hb2, hi1, hi2, he⟩ := h
 obtain ⟨k1, a1, b1, i1, e1⟩ := v
 show (Jr 600).b _ _ ((Jr 600).L 599) some = _
 simp only [Jr]
 simp only [kdV, byV] at hk hb1 hb2
 have en : ((nob).toList == (⟨#[]⟩ : ByteArray).toList) = true := by kernel_rfl
 rcases hk with rfl | rfl | rfl | rfl | rfl | rfl
 ·rw [hb1 (by omega)]
  have e1 : ((1 : Int) == 1) = true := by decide
  simp only [e1, en, Bool.not_true]
 ·rw [hb1 (by omega)]
  have e1 : ((2 : Int) == 1) = false := by decide
  have e2 : ((2 : Int) == 2) = true := by decide
  simp only [e1, e2, en, Bool.not_true]
 all_goals
  have hp := (zjQ (hb2 (by omega))).1
  simp only [hp]
  rfl
theorem zhD {T : Int} {n i m : Nat} {x : List RT7} (hT : T <= 18014398509481984) (hn : n <= 10000) (hm : m <= 100) (h : XG T n i m x) (hi : i < n) : ∀ (d k f : Nat), k + d = x.length -> d < f -> (jJ 600).L f ((i : Int), (n : Int), (k : Int), x.map zK) = some (.inr (x.map zK)) := by
 intro d
 induction d with
 | zero =>
  intro k f hk hf
  obtain ⟨f, rfl⟩ := pS hf
  show (jJ 600).b _ _ ((jJ 600).L f) some = _
  have e2 : decide ((k : Int) < (x.length : Int)) = false := dF (by omega)
  simp only [jJ]
  simp only [List.length_map, e2]
 | succ d ih =>
  intro k f hk hf
  obtain ⟨f, rfl⟩ := pS hf
  have hkl : k < x.length := by omega
  have r1 := ih (k + 1) f (by omega) (by omega)
  show (jJ 600).b _ _ ((jJ 600).L f) some = _
  generalize (jJ 600).L f = Lf at r1 |-
  have e2 : decide ((k : Int) < (x.length : Int)) = true := dT (by omega)
  have h0 : 0 <= (k : Int) := by omega
  have hle := h.le
  have hv := h.vs k hkl
  have c1 : decide (x[k].1 < 1) = false := by rw [decide_eq_false_iff_not]; have := hv.kd.lt; simp only [kdV] at this; omega
  have c2 : decide (x[k].1 > 6) = false := by rw [decide_eq_false_iff_not]; have := hv.kd.lt; simp only [kdV] at this; omega
  have c3 : decide (x[k].2.1 < 0) = false := by rw [decide_eq_false_iff_not]; have := hv.at0; simp only [atV] at this; omega
  have c4 : decide (x[k].2.1 > 18014398509481984) = false := by rw [decide_eq_false_iff_not]; have := hv.atT; simp only [atV] at this; omega
  have c5 : zfr 600 [zB (zw x[k])] = some true := hv.ev.rv
  have c6 := zCZ hv (k : Int) (x.map zK)
  have c7 : ∀ (b : Bool), (b = true ↔ x[k].2.2.2.1 = 0) -> (x[k].2.2.2.1 != 0) = !b := fun b hb => by
   cases b
   ·simp; intro e; simpa using hb.2 e
   ·simp [hb.1 rfl]
  simp only [jJ]
  simp only [List.length_map, e2, h0, if_true, Int.toNat_natCast, zqs x k hkl, rd7, c1, c2, c3, c4, c5, Bool.not_true, c6]
  by_cases k5 : x[k].1 = 5
  ·have d1 : (x[k].1 != 5) = false := by simp [k5]
   have d2 : (x[k].1 == 5) = true := by simp [k5]
   obtain ⟨p1, p2, p3⟩ := hv.in2 k5
   simp only [inV] at p1 p2 p3
   have d3 : decide (x[k].2.2.2.1 < 0) = false := dF (by omega)
   have d4 : decide (x[k].2.2.2.1 >= (n : Int)) = false := dF (by omega)
   have d5 : (x[k].2.2.2.1 == (i : Int)) = false := by simpa using p3
   simp only [d1, d2, d3, d4, d5]
   by_cases hk0 : k = 0
   ·exfalso
    subst hk0
    have := h.hd hkl
    simp only [kdV] at this
    omega
   ·have d6 : ((k : Int) == 0) = false := by simp [hk0]
    obtain ⟨k', rfl⟩ : ∃ k', k = k' + 1 := ⟨k - 1, by omega⟩
    obtain ⟨s1, s2, s3⟩ := h.st k' hkl
    have d7 : i64 (((k' + 1 : Nat) : Int) - 1) = (k' : Int) := by rw [Zr (by omega)]; omega
    have d8 : decide (x[k' + 1].2.1 < x[k'].2.1) = false := by rw [decide_eq_false_iff_not]; simp only [atV] at s1; omega
    have d9 := zCn 600 x[k' + 1] x[k']
    have d10 := zqA 600 x[k' + 1].1
    have h0' : 0 <= (k' : Int) := by omega
    have n1 := zp (k := k' + 1) (by omega)
    rw [s2] at d9
    simp only [d6, d7, h0', if_true, Int.toNat_natCast, zqs x k' (by omega), rd7, d8, d9, Bool.not_true, d10, n1]
    cases hkp : za0 x[k' + 1].1 with
    | false => exact r1
    | true =>
     have s4 := s3 hkp
     obtain ⟨b, q1, q2⟩ := zf6 (evV x[k']) (evV x[k' + 1]) (h.vs k' (by omega)).ev.pk hv.ev.pk
     rw [q2.2 s4] at q1
     replace q1 : zc6 600 (zw x[k'], zw x[k' + 1]) = some true := q1
     simp only [q1, Bool.not_true]
     exact r1
  ·have d1 : (x[k].1 != 5) = true := by simp [k5]
   have d2 : (x[k].1 == 5) = false := by simp [k5]
   have d3 : (x[k].2.2.2.1 != 0) = false := by have := hv.in1 k5; simp only [inV] at this; simp [this]
   simp only [d1, d2, d3]
   by_cases hk0 : k = 0
   ·subst hk0
    have d6 : (((0 : Nat) : Int) == 0) = true := by decide
    have d7 : (x[0].1 != 1) = false := by have := h.hd hkl; simp only [kdV] at this; simp [this]
    have n1 := zp (k := 0) (by omega)
    simp only [d6, d7, n1]
    exact r1
   ·have d6 : ((k : Int) == 0) = false := by simp [hk0]
    obtain ⟨k', rfl⟩ : ∃ k', k = k' + 1 := ⟨k - 1, by omega⟩
    obtain ⟨s1, s2, s3⟩ := h.st k' hkl
    have d7 : i64 (((k' + 1 : Nat) : Int) - 1) = (k' : Int) := by rw [Zr (by omega)]; omega
    have d8 : decide (x[k' + 1].2.1 < x[k'].2.1) = false := by rw [decide_eq_false_iff_not]; simp only [atV] at s1; omega
    have d9 := zCn 600 x[k' + 1] x[k']
    have d10 := zqA 600 x[k' + 1].1
    have h0' : 0 <= (k' : Int) := by omega
    have n1 := zp (k := k' + 1) (by omega)
    rw [s2] at d9
    simp only [d6, d7, h0', if_true, Int.toNat_natCast, zqs x k' (by omega), rd7, d8, d9, Bool.not_true, d10, n1]
    cases hkp : za0 x[k' + 1].1 with
    | false => exact r1
    | true =>
     have s4 := s3 hkp
     obtain ⟨b, q1, q2⟩ := zf6 (evV x[k']) (evV x[k' + 1]) (h.vs k' (by omega)).ev.pk hv.ev.pk
     rw [q2.2 s4] at q1
     replace q1 : zc6 600 (zw x[k'], zw x[k' + 1]) = some true := q1
     simp only [q1, Bool.not_true]
     exact r1
end Go.Proofs.YthdgnfcbehcplaaGreatDoor
end
section
namespace Go.Proofs.YthdgnfcbehcplaaGreatDoor
theorem rd6 (x : List RT7) : zgc (zfa x) = some (x.map zK, ()) := zzW x
theorem zvT {T : Int} {n i m : Nat} {x : List RT7} (hT : T <= 18014398509481984) (hn : n <= 10000) (hm : m <= 100) (h : XG T n i m x) (hi : i < n) : zyw 600 (x.map zK, (i : Int), (n : Int)) = some true := by
 have h1 : (jJ 600).L 600 ((i : Int), (n : Int), 0, x.map zK) = some (.inr (x.map zK)) := zhD hT hn hm h hi x.length 0 600 (by omega) (by have := h.le; omega)
 have hp := h.pos
 have hl := h.le
 simp only [zyw, FSpec.d, zec, zwN, h1, List.length_map]
 have e1 : decide ((x.length : Int) >= 1) = true := dT (by omega)
 have e2 : decide ((x.length : Int) <= 100) = true := dT (by omega)
 simp only [e1, e2]
theorem zlE {T : Int} {m e : Nat} {C : List (List RT7)} (hT : T <= 18014398509481984) (he : e <= 500) (hm : m <= 100) (h : CG T m e C) : ∀ (d k f : Nat), k + d = C.length -> d < f -> (jG 600).L f ((k : Int), zD C) = some (.inr (zD C)) := by
 intro d
 induction d with
 | zero =>
  intro k f hk hf
  obtain ⟨f, rfl⟩ := pS hf
  show (jG 600).b _ _ ((jG 600).L f) some = _
  have e2 : decide ((k : Int) < (C.length : Int)) = false := dF (by omega)
  simp only [jG]
  simp only [zS, e2]
 | succ d ih =>
  intro k f hk hf
  obtain ⟨f, rfl⟩ := pS hf
  have hkl : k < C.length := by omega
  have r1 := ih (k + 1) f (by omega) (by omega)
  show (jG 600).b _ _ ((jG 600).L f) some = _
  generalize (jG 600).L f = Lf at r1 |-
  have e2 : decide ((k : Int) < (C.length : Int)) = true := dT (by omega)
  have h0 : 0 <= (k : Int) := by omega
  have hle := h.le
  have v1 := zvT hT (by omega) hm (h.xs k hkl) hkl
  simp only [jG]
  simp only [zS, e2, h0, if_true, Int.toNat_natCast, zV C k hkl, rd6, v1, Bool.not_true, zp (show k < 1000000 by omega)]
  exact r1
theorem zpZ {T : Int} {m e : Nat} {C : List (List RT7)} (hT : T <= 18014398509481984) (he : e <= 500) (hm : m <= 100) (h : CG T m e C) : zr6 600 (zD C) = some true := by
 have hle := h.le
 have h1 : (jG 600).L 600 (0, zD C) = some (.inr (zD C)) := zlE hT he hm h C.length 0 600 (by omega) (by omega)
 simp only [zr6, FSpec.d, zd5, zwt, h1, zS]
 have e2 : decide ((C.length : Int) <= 500) = true := dT (by omega)
 simp only [e2]
theorem ze4 (x : List RT7) (h : x ≠ []) (hl : x.length <= 1000) : zhS 600 (x.map zK) = some (x.getLast h) := by
 have hp := List.length_pos_iff.2 h
 have e1 : i64 ((x.length : Int) - 1) = ((x.length - 1 : Nat) : Int) := by rw [Zr (by omega)]; omega
 have h0 : 0 <= ((x.length - 1 : Nat) : Int) := by omega
 simp only [zhS, FSpec.d, zed, List.length_map, e1, h0, if_true, Int.toNat_natCast, zqs x (x.length - 1) (by omega), rd7]
 rw [List.getLast_eq_getElem]
theorem zjI (x : List RT7) (h : x ≠ []) (hl : x.length <= 1000) : zoP 600 (x.map zK) = some (x.getLast h) := ze4 x h hl
theorem XG.last {T : Int} {n i m : Nat} {x : List RT7} (h : XG T n i m x) : VG T n i (x.getLast h.ne) := by
 rw [List.getLast_eq_getElem]
 exact h.vs _ _
theorem zit {T : Int} {m e : Nat} {C : List (List RT7)} {now : Int} (hT : T <= now) (he : e <= 500) (hm : m <= 100) (h : CG T m e C) : ∀ (d k f : Nat), k + d = C.length -> d < f -> (jK 600).L f (now, (k : Int), zD C) = some (.inr ()) := by
 intro d
 induction d with
 | zero =>
  intro k f hk hf
  obtain ⟨f, rfl⟩ := pS hf
  show (jK 600).b _ _ ((jK 600).L f) some = _
  have e2 : decide ((k : Int) < (C.length : Int)) = false := dF (by omega)
  simp only [jK]
  simp only [zS, e2]
 | succ d ih =>
  intro k f hk hf
  obtain ⟨f, rfl⟩ := pS hf
  have hkl : k < C.length := by omega
  have r1 := ih (k + 1) f (by omega) (by omega)
  show (jK 600).b _ _ ((jK 600).L f) some = _
  generalize (jK 600).L f = Lf at r1 |-
  have e2 : decide ((k : Int) < (C.length : Int)) = true := dT (by omega)
  have h0 : 0 <= (k : Int) := by omega
  have hle := h.le
  have hx := h.xs k hkl
  have v1 := ze4 C[k] hx.ne (by have := hx.le; omega)
  have v2 : decide ((C[k].getLast hx.ne).2.1 > now) = false := by rw [decide_eq_false_iff_not]; have := hx.last.atT; simp only [atV] at this; omega
  simp only [jK]
  simp only [zS, e2, h0, if_true, Int.toNat_natCast, zV C k hkl, rd6, v1, v2, zp (show k < 1000000 by omega)]
  exact r1
theorem zjJ {T : Int} {m e : Nat} {C : List (List RT7)} {now : Int} (hT : T <= now) (he : e <= 500) (hm : m <= 100) (h : CG T m e C) : ztg 600 (zD C, now) = some true := by
 have hle := h.le
 have h1 : (jK 600).L 600 (now, 0, zD C) = some (.inr ()) := zit hT he hm h C.length 0 600 (by omega) (by omega)
 simp only [ztg, FSpec.d, zee, zwQ, h1]
def FC (D : List (List RT7)) (k : Nat) (cs : List AV) : Prop := cs.length = D.length /\ ∀ i (h : i < D.length), ∃ t, cs[i]? = some (AV.list 29 (D[i].map zK) t) /\ (t = none \/ t = some (TOB + i)) /\ (k <= i -> t = some (TOB + i))
theorem FC.nil : FC [] 0 [] := ⟨rfl, fun i h => by simp at h⟩
theorem FC.to {D : List (List RT7)} {k l : Nat} {cs : List AV} (h : FC D k cs) (hl : k <= l) : FC D l cs :=
 ⟨h.1, fun i hi => by obtain ⟨t, h1, h2, h3⟩ := h.2 i hi; exact ⟨t, h1, h2, fun e => h3 (by omega)⟩⟩
theorem FC.mp {D : List (List RT7)} {k : Nat} {cs : List AV} (h : FC D k cs) (g : AV -> AV) (hg : ∀ i xs t, i < D.length -> t = none \/ t = some (TOB + i) -> g (AV.list 29 xs t) = AV.list 29 xs t) : cs.map g = cs := by
 refine List.ext_getElem (by simp) fun i h1 h2 => ?_
 have hi : i < D.length := by rw [<- h.1]; exact h2
 obtain ⟨t, e1, e2, _⟩ := h.2 i hi
 rw [List.getElem?_eq_getElem h2] at e1
 rw [List.getElem_map, Option.some.inj e1, hg i _ t hi e2]
theorem FC.dF {D : List (List RT7)} {k : Nat} {cs : List AV} (h : FC D k cs) : cs.map datF = cs := h.mp datF fun i xs t _ ht => by
 rcases ht with rfl | rfl
 ·rfl
 ·have : Nat.ble TOB (TOB + i) = true := Nat.ble_eq_true_of_le (by omega)
  simp only [datF, this, cond_true]
theorem FC.dJ {D : List (List RT7)} {k : Nat} {cs : List AV} (h : FC D k cs) : cs.map (datJ 0 D.length) = cs := h.mp _ fun i xs t hi ht => by
 rcases ht with rfl | rfl
 ·rfl
 ·have : Nat.ble (TOB + 0) (TOB + i) = true := Nat.ble_eq_true_of_le (by omega)
  have h2 : Nat.ble (TOB + D.length) (TOB + i) = false := by
   cases hb : Nat.ble (TOB + D.length) (TOB + i) with
   | false => rfl
   | true => have := Nat.le_of_ble_eq_true hb; omega
  simp only [datJ, this, h2, Bool.not_false, Bool.and_self, cond_true]
def zaH (D : List (List RT7)) : List AV := D.map fun x => AV.list 29 (x.map zK) none
theorem zbc (D : List (List RT7)) : (zaH D).length = D.length := by simp [zaH]
theorem FC.d0 {D : List (List RT7)} {k : Nat} {cs : List AV} (h : FC D k cs) : cs.map dat0 = zaH D := by
 refine List.ext_getElem (by simp [zaH, h.1]) fun i h1 h2 => ?_
 have hi : i < D.length := by simpa [zaH] using h2
 have h3 : i < cs.length := by rw [h.1]; exact hi
 obtain ⟨t, e1, e2, _⟩ := h.2 i hi
 rw [List.getElem?_eq_getElem h3] at e1
 rw [List.getElem_map, Option.some.inj e1]
 simp only [zaH, List.getElem_map]
 rcases e2 with rfl | rfl <;> rfl
theorem j3 (D : List (List RT7)) : (zaH D).map dat0 = zaH D := by
 simp only [zaH, List.map_map]; rfl
theorem zuW (C D : List (List RT7)) : zaH C ++ zaH D = zaH (C ++ D) := by simp [zaH]
theorem zdA : ∀ (D : List (List RT7)), zL (zaH D) 1 D.length = zD D
 | [] => rfl
 | x :: D => by
  show _ :: _ = _ :: _
  congr 1
  exact zdA D
theorem zeY (D : List (List RT7)) : zL ((zaH D).take (D.length * 1)) 1 D.length = zD D := by
 rw [Nat.mul_one, List.take_of_length_le (by simp [zaH]), zdA]
theorem FC.set {D : List (List RT7)} {k : Nat} {cs : List AV} (h : FC D k cs) (hk : k < D.length) (y : List RT7) {q : Nat} (hq : q < TOB) : FC (D.set k y) (k + 1) ((splice cs k [AV.list 29 (y.map zK) (some q)]).map datF) := by
 refine ⟨by simp [splice, h.1], fun i hi => ?_⟩
 simp at hi
 have h3 : i < cs.length := by rw [h.1]; exact hi
 obtain ⟨t, e1, e2, e3⟩ := h.2 i hi
 rw [List.getElem?_eq_getElem h3] at e1
 by_cases e : k = i
 ·subst e
  refine ⟨none, ?_, .inl rfl, fun e => by omega⟩
  have : Nat.ble TOB q = false := by
   cases hb : Nat.ble TOB q with
   | false => rfl
   | true => have := Nat.le_of_ble_eq_true hb; omega
  show ((cs.set k _).map _)[k]? = _
  rw [List.getElem?_map, List.getElem?_set_self h3, List.getElem_set_self]
  simp only [Option.map, datF, this, cond_false]
 ·refine ⟨t, ?_, e2, fun e' => e3 (by omega)⟩
  show ((cs.set k _).map _)[i]? = _
  rw [List.getElem?_map, List.getElem?_set_ne e, List.getElem?_eq_getElem h3, List.getElem_set_ne e, Option.some.inj e1]
  rcases e2 with rfl | rfl
  ·rfl
  ·have : Nat.ble TOB (TOB + i) = true := Nat.ble_eq_true_of_le (by omega)
   simp only [Option.map, datF, this, cond_true]
theorem FC.snoc {D : List (List RT7)} {cs : List AV} (h : FC D 0 cs) (y : List RT7) : FC (D ++ [y]) 0 ((cs.take (D.length * 1) ++ [AV.list 29 (y.map zK) (some (TOB + D.length))]).map datF) := by
 rw [Nat.mul_one, <- h.1, List.take_length, List.map_append, h.dF]
 have hb : Nat.ble TOB (TOB + cs.length) = true := Nat.ble_eq_true_of_le (by omega)
 simp only [List.map, datF, hb, cond_true]
 refine ⟨by simp [h.1], fun i hi => ?_⟩
 simp at hi
 by_cases e : i < D.length
 ·obtain ⟨t, e1, e2, e3⟩ := h.2 i e
  refine ⟨t, ?_, e2, e3⟩
  rw [List.getElem?_append_left (by rw [h.1]; exact e), e1, List.getElem_append_left e]
 ·obtain rfl : i = D.length := by omega
  refine ⟨some (TOB + D.length), ?_, .inr rfl, fun _ => rfl⟩
  rw [List.getElem?_append_right (by rw [h.1]; omega), List.getElem_append_right (by omega)]
  simp [h.1]
theorem zqf {m e : Nat} {C : List (List RT7)} (he : C.length <= 500) (hm : ∀ x ∈ C, x.length <= 1000) (X : List (List AV)) : ∀ (d k f : Nat) (cs : List AV), k + d = C.length -> d < f -> FC (C.take k) 0 cs -> ∃ cs', (ZU 600).L f ((k : Int), zD C, X, k, cs, 0, k) = some (X, C.length, cs', 0, C.length) /\ FC C 0 cs' := by
 intro d
 induction d with
 | zero =>
  intro k f cs hk hf hc
  obtain ⟨f, rfl⟩ := pS hf
  obtain rfl : k = C.length := by omega
  rw [List.take_length] at hc
  refine ⟨cs, ?_, hc⟩
  show (ZU 600).b _ _ ((ZU 600).L f) some = _
  have e2 : decide ((C.length : Int) < (C.length : Int)) = false := dF (by omega)
  simp only [ZU]
  simp only [zS, e2, hc.dF]
 | succ d ih =>
  intro k f cs hk hf hc
  obtain ⟨f, rfl⟩ := pS hf
  have hkl : k < C.length := by omega
  have hn := hc.snoc C[k]
  have hlk : (C.take k).length = k := by simp; omega
  rw [hlk, List.take_append_getElem] at hn
  obtain ⟨cs', r1, r2⟩ := ih (k + 1) f _ (by omega) (by omega) hn
  refine ⟨cs', ?_, r2⟩
  show (ZU 600).b _ _ ((ZU 600).L f) some = _
  generalize (ZU 600).L f = Lf at r1 |-
  have e2 : decide ((k : Int) < (C.length : Int)) = true := dT (by omega)
  have h0 : 0 <= (k : Int) := by omega
  have hx := hm C[k] (List.getElem_mem _)
  have b1 : ((([] : List (List AV)).length + (C[k].map zK).length) * 288 <= zh) = True := by unfold zh; simp; omega
  have b2 : ((True /\ 0 <= k) /\ k * 1 <= cs.length /\ (k + 1) * 24 <= zh) = True := by rw [hc.1, hlk]; unfold zh; simp; omega
  simp only [ZU]
  simp only [zS, e2, h0, if_true, Int.toNat_natCast, zV C k hkl, zhv, zqG, b1, b2, List.nil_append, zp (show k < 1000000 by omega)]
  exact r1
theorem zxr {C : List (List RT7)} (he : C.length <= 500) (hm : ∀ x ∈ C, x.length <= 1000) : ∃ cs, zgF 600 (zD C) = some (C.length, cs, 0, C.length) /\ FC C 0 cs := by
 obtain ⟨cs, h1, h2⟩ := zqf (m := 0) (e := 0) he hm [] C.length 0 600 [] (by omega) (by omega) (by simpa using FC.nil)
 refine ⟨cs, ?_, h2⟩
 replace h1 : (ZU 600).L 600 (0, zD C, [], 0, [], 0, 0) = some ([], C.length, cs, 0, C.length) := h1
 simp only [zgF, FSpec.d, zaB, zok, h1, h2.dF]
theorem CG.small {T : Int} {m e : Nat} {C : List (List RT7)} (h : CG T m e C) (hm : m <= 1000) : ∀ x ∈ C, x.length <= 1000 := fun x hx => by
 obtain ⟨k, hk, rfl⟩ := List.getElem_of_mem hx
 exact Nat.le_trans (h.xs k hk).le hm
end Go.Proofs.YthdgnfcbehcplaaGreatDoor
end
section
namespace Go.Proofs.YthdgnfcbehcplaaGreatDoor
theorem zeZ : ∀ (D : List (List RT7)) (cs : List AV), cs.map dat0 = zaH D -> zL cs 1 D.length = zD D
 | [], _, _ => rfl
 | x :: D, [], h => by cases h
 | x :: D, c :: cs, h => by
  have h' : dat0 c :: cs.map dat0 = AV.list 29 (x.map zK) none :: zaH D := h
  injection h' with h1 h2
  show [dat0 c] :: zL cs 1 D.length = zfa x :: zD D
  rw [h1, zeZ D cs h2]; rfl
theorem FC.sp {D : List (List RT7)} {k : Nat} {cs : List AV} (h : FC D k cs) (i : Nat) (y : List RT7) (q : Nat) : (splice cs i [AV.list 29 (y.map zK) (some q)]).map dat0 = zaH (D.set i y) := by
 show (cs.set i _).map dat0 = _
 rw [List.map_set, h.d0]
 simp only [zaH, List.map_set]
 rfl
theorem FC.csp {D : List (List RT7)} {k : Nat} {cs : List AV} (h : FC D k cs) (i : Nat) (y : List RT7) (q : Nat) : zL ((splice cs i [AV.list 29 (y.map zK) (some q)]).take (D.length * 1)) 1 D.length = zD (D.set i y) := by
 rw [Nat.mul_one, List.take_of_length_le (by rw [Zg, h.1]; exact Nat.le_refl _)]
 have := zeZ (D.set i y) _ (h.sp i y q)
 rw [List.length_set] at this
 exact this
def zh3 (k t : Int) (b : ByteArray) (to : Int) (e1 last : RT0) : RT7 := (k, t, b, to, if za0 k = true then last else e1)
structure Say (k : Int) (b : ByteArray) (to : Int) (e1 : RT0) : Prop where
 kd : k = 3 \/ k = 4 \/ k = 5 \/ k = 6
 per : Per b
 ev : k = 3 -> EvG e1
 to0 : k ≠ 5 -> to = 0
 to1 : 0 <= to
theorem Say.vg {k : Int} {b : ByteArray} {to : Int} {e1 : RT0} (h : Say k b to e1) {T t : Int} {n i m : Nat} {x : List RT7} (hx : XG T n i m x) (hT : T <= t) (hl : to < n) (hs : k = 5 -> to ≠ i) : VG t n i (zh3 k t b to e1 (evV (x.getLast hx.ne))) := by
 have hL := hx.last
 obtain ⟨hk, hp, he, h0, h1⟩ := h
 refine ⟨by unfold Kd6 kdV zh3; dsimp only; omega, Int.le_trans hL.at0 (Int.le_trans hL.atT hT), Int.le_refl _, fun h => by simp only [zh3, kdV] at h; omega, fun _ => hp, h0, fun h => ⟨h1, hl, hs h⟩, ?_⟩
 show EvG (if za0 k = true then _ else _)
 rcases hk with rfl | rfl | rfl | rfl
 ·rw [if_neg (by decide)]; exact he rfl
 ·rw [if_pos (by decide)]; exact hL.ev
 ·rw [if_pos (by decide)]; exact hL.ev
 ·rw [if_pos (by decide)]; exact hL.ev
theorem Say.stp {k : Int} {b : ByteArray} {to : Int} {e1 : RT0} (h : Say k b to e1) {T t : Int} {n i m : Nat} {x : List RT7} (hx : XG T n i m x) (hT : T <= t) (ho : k = 6 -> jB (kdV (x.getLast hx.ne)) = false) : Stp (x.getLast hx.ne) (zh3 k t b to e1 (evV (x.getLast hx.ne))) := by
 have hL := hx.last
 obtain ⟨hk, hp, he, h0, h1⟩ := h
 refine ⟨Int.le_trans hL.atT hT, ?_, fun h => ?_⟩
 ·show zCm k _ = true
  rcases hk with rfl | rfl | rfl | rfl
  ·rfl
  ·rfl
  ·rfl
  ·show (!(jB _)) = true
   rw [ho rfl]; rfl
 ·replace h : za0 k = true := h
  show _ = (if za0 k = true then _ else _)
  rw [if_pos h]
theorem zuN {T t : Int} {m e : Nat} {C : List (List RT7)} (hC : CG T m e C) (he : e <= 500) (hm : m < 100) (hT : T <= t) (ht0 : 0 <= t) (ht : t <= 18014398509481984) {k : Int} {b : ByteArray} {to : Int} {e1 : RT0} (hs : Say k b to e1) (id : Nat) : ∃ d y, zd9 600 (zD C, (id : Int), (k, t, b, to, e1)) = some (d, y) /\ (y = 0 -> ∃ C', d = zD C' /\ CG t (m + 1) e C') := by
 have hle := hC.le
 have hV := zpZ (by omega) he (by omega) hC
 have hP := (zjQ hs.per).1
 have hL := zjJ hT he (by omega) hC
 have h2 : zwB 600 ((id : Int), zD C, (k, t, b, to, e1), []) = some (.inr ((id : Int), zD C, (k, t, b, to, e1), [])) := by
  show (zaD 600).b _ _ ((zaD 600).L 599) some = _
  simp only [zaD]
  simp only [hV, hP, Bool.not_true]
  by_cases k3 : k = 3
  ·have c1 : (k == 3) = true := by simp [k3]
   have c2 : zfr 600 [zB (zw (k, t, b, to, e1))] = some true := (hs.ev k3).rv
   simp only [c1, c2, Bool.not_true]
  ·have c1 : (k == 3) = false := by simp [k3]
   simp only [c1]
 simp only [zd9, FSpec.d, zea, h2, zS]
 have n1 : decide ((id : Int) < 0) = false := dF (by omega)
 simp only [n1]
 by_cases c1 : id < C.length
 case neg =>
  have n2 : decide ((id : Int) >= (C.length : Int)) = true := dT (by omega)
  simp only [n2]
  exact ⟨_, _, rfl, fun h => by cases h⟩
 have n2 : decide ((id : Int) >= (C.length : Int)) = false := dF (by omega)
 have n3 : decide (to < 0) = false := by rw [decide_eq_false_iff_not]; have := hs.to1; omega
 simp only [n2, n3]
 by_cases c2 : to < C.length
 case neg =>
  have n4 : decide (to >= (C.length : Int)) = true := dT (by omega)
  simp only [n4]
  exact ⟨_, _, rfl, fun h => by cases h⟩
 have n4 : decide (to >= (C.length : Int)) = false := dF (by omega)
 have n5 : decide (t < 0) = false := dF (by omega)
 have n6 : decide (t > 18014398509481984) = false := dF (by omega)
 have h0 : 0 <= (id : Int) := by omega
 have hx := hC.xs id c1
 have hxl := hx.le
 have hla := ze4 C[id] hx.ne (by omega)
 simp only [n4, n5, n6, hL, Bool.not_true, h0, if_true, Int.toNat_natCast, zV C id c1, rd6, hla]
 obtain ⟨L, hLd⟩ : ∃ L, L = C[id].getLast hx.ne := ⟨_, rfl⟩
 rw [<- hLd]
 have hop := zqM 600 L
 have h19 : (zft 600 ((id : Int), zD C, (k, t, b, to, e1), [], L) = some (.inl ((id : Int), 10, zD C, (k, t, b, to, e1), [], L))) \/ ((k = 5 -> to ≠ (id : Int)) /\ (k = 6 -> jB (kdV L) = false) /\ zft 600 ((id : Int), zD C, (k, t, b, to, e1), [], L) = some (.inr ((id : Int), zD C, (k, t, b, to, e1), [], L))) := by
  have hu : ∀ y, (jj 600).b ((id : Int), zD C, (k, t, b, to, e1), [], L) _ ((jj 600).L 599) some = y -> zft 600 ((id : Int), zD C, (k, t, b, to, e1), [], L) = y := fun y h => h
  rcases hs.kd with rfl | rfl | rfl | rfl
  ·exact .inr ⟨fun h => (by cases h), fun h => (by cases h), hu _ (by kernel_rfl)⟩
  ·exact .inr ⟨fun h => (by cases h), fun h => (by cases h), hu _ (by kernel_rfl)⟩
  ·by_cases c3 : to = (id : Int)
   ·refine .inl (hu _ ?_)
    have c4 : (to == (id : Int)) = true := by simp [c3]
    have c5 : ((5 : Int) == 5) = true := by decide
    simp only [jj]
    simp only [c4, c5]
   ·refine .inr ⟨fun _ => c3, fun h => (by cases h), hu _ ?_⟩
    have c4 : (to == (id : Int)) = false := by simp [c3]
    have c5 : ((5 : Int) == 5) = true := by decide
    have c6 : ((5 : Int) == 6) = false := by decide
    simp only [jj]
    simp only [c4, c5, c6]
  ·have c5 : ((6 : Int) == 5) = false := by decide
   have c6 : ((6 : Int) == 6) = true := by decide
   cases ho : jB (kdV L) with
   | true =>
    refine .inl (hu _ ?_)
    rw [ho] at hop
    simp only [jj]
    simp only [c5, c6, hop]
   | false =>
    refine .inr ⟨fun h => (by cases h), fun _ => rfl, hu _ ?_⟩
    rw [ho] at hop
    simp only [jj]
    simp only [c5, c6, hop]
 rcases h19 with h19 | ⟨g1, g2, h19⟩
 ·simp only [h19]
  exact ⟨_, _, rfl, fun h => by cases h⟩
 have hv := hs.vg hx hT c2 g1
 have hst := hs.stp hx hT (by rw [<- hLd]; exact g2)
 rw [<- hLd] at hv hst
 have hn := hC.set c1 hT hv (by rw [<- hLd]; exact hst)
 have m1 : (((C[id].map zK).length : Int) == 100) = false := by simp; omega
 have hkp := zqA 600 k
 obtain ⟨cs, q1, q2⟩ := zxr (C := C) (by omega) (hC.small (by omega))
 obtain ⟨tk, q3, _, q4⟩ := q2.2 id c1
 rw [q4 (Nat.zero_le _)] at q3
 have hI : (id : Int) < (C.length : Int) := by omega
 have b1 : ((C[id].map zK).length + [zK (zh3 k t b to e1 (evV L))].length) * 288 <= zh := by unfold zh; simp; omega
 have b2 : id + 1 <= cs.length := by rw [q2.1]; exact c1
 have b3 : ∀ q, C.length * 1 <= (splice cs id q).length := fun q => by rw [Zg, q2.1]; omega
 have hr : (C[id].map zK) ++ [zK (zh3 k t b to e1 (evV L))] = (C[id] ++ [zh3 k t b to e1 (evV L)]).map zK := by simp
 have hch := q2.csp id (C[id] ++ [zh3 k t b to e1 (evV L)]) 7872
 simp only [h19, h0, if_true, Int.toNat_natCast, zV C id c1, zhv, zqG, m1, hkp, q1]
 unfold zh3 at b1 hr hch hn
 rw [Nat.mul_one] at hch
 have b3' : ∀ q, C.length <= (splice cs id q).length := fun q => by have := b3 q; omega
 cases hkk : za0 k with
 | true =>
  simp only [hkk, if_true] at b1 hr hch hn
  simp only [hI, h0, q2.dJ, Nat.zero_add, Nat.mul_one, Nat.add_zero, q3, c1, and_self, if_true, Nat.zero_le, b2]
  rw [if_pos b1, if_pos (b3' _)]
  refine ⟨_, _, rfl, fun _ => ⟨_, ?_, hn⟩⟩
  rw [<- hch, <- hr]
 | false =>
  simp only [hkk, Bool.false_eq_true, if_false] at b1 hr hch hn
  simp only [hI, h0, q2.dJ, Nat.zero_add, Nat.mul_one, Nat.add_zero, q3, c1, and_self, if_true, Nat.zero_le, b2]
  rw [if_pos b1, if_pos (b3' _)]
  refine ⟨_, _, rfl, fun _ => ⟨_, ?_, hn⟩⟩
  rw [<- hch, <- hr]
theorem zvE {T t : Int} {m e : Nat} {C : List (List RT7)} (hC : CG T m e C) (he : e <= 500) (hm : m < 100) (hT : T <= t) (ht0 : 0 <= t) (ht : t <= 18014398509481984) {b : ByteArray} {x : RT0} (hb : Per b) (hx : EvG x) (id : Nat) : ∃ d y, zxS 600 (zD C, (id : Int), b, x, t) = some (d, y) /\ (y = 0 -> ∃ C', d = zD C' /\ CG t (m + 1) e C') := by
 obtain ⟨d, y, h1, h2⟩ := zuN hC he hm hT ht0 ht (k := 3) (b := b) (to := 0) (e1 := x) ⟨.inl rfl, hb, fun _ => hx, fun _ => rfl, Int.le_refl _⟩ id
 refine ⟨d, y, ?_, h2⟩
 show (match zd9 600 (zD C, (id : Int), (3, t, b, 0, x)) with | some y1 => some y1 | none => none) = _
 rw [h1]
@[reducible] def zE : RT0 := ((⟨#[]⟩ : ByteArray), (⟨#[]⟩ : ByteArray), (⟨#[]⟩ : ByteArray), (⟨#[]⟩ : ByteArray), 0, 0, 0, 0, 0, ([] : List (List AV)), 0, 0, 0, 0, 0, 0, 0, 0, 0, 0, 0, 0, 0, 0, 0, ())
theorem zu5 {T t : Int} {m e : Nat} {C : List (List RT7)} (hC : CG T m e C) (he : e <= 500) (hm : m < 100) (hT : T <= t) (ht0 : 0 <= t) (ht : t <= 18014398509481984) {b : ByteArray} (hb : Per b) (id : Nat) : ∃ d y, zxW 600 (zD C, (id : Int), b, t) = some (d, y) /\ (y = 0 -> ∃ C', d = zD C' /\ CG t (m + 1) e C') := by
 obtain ⟨d, y, h1, h2⟩ := zuN hC he hm hT ht0 ht (k := 4) (b := b) (to := 0) (e1 := zE) ⟨.inr (.inl rfl), hb, fun h => (by cases h), fun _ => rfl, Int.le_refl _⟩ id
 refine ⟨d, y, ?_, h2⟩
 show (match zd9 600 (zD C, (id : Int), (4, t, b, 0, zE)) with | some y1 => some y1 | none => none) = _
 rw [h1]
theorem zzw {T t : Int} {m e : Nat} {C : List (List RT7)} (hC : CG T m e C) (he : e <= 500) (hm : m < 100) (hT : T <= t) (ht0 : 0 <= t) (ht : t <= 18014398509481984) {b : ByteArray} (hb : Per b) (id to : Nat) : ∃ d y, zx0 600 (zD C, (id : Int), (to : Int), b, t) = some (d, y) /\ (y = 0 -> ∃ C', d = zD C' /\ CG t (m + 1) e C') := by
 obtain ⟨d, y, h1, h2⟩ := zuN hC he hm hT ht0 ht (k := 5) (b := b) (to := (to : Int)) (e1 := zE) ⟨.inr (.inr (.inl rfl)), hb, fun h => (by cases h), fun h => absurd rfl h, by omega⟩ id
 refine ⟨d, y, ?_, h2⟩
 show (match zd9 600 (zD C, (id : Int), (5, t, b, (to : Int), zE)) with | some y1 => some y1 | none => none) = _
 rw [h1]
theorem zqY {T t : Int} {m e : Nat} {C : List (List RT7)} (hC : CG T m e C) (he : e <= 500) (hm : m < 100) (hT : T <= t) (ht0 : 0 <= t) (ht : t <= 18014398509481984) {b : ByteArray} (hb : Per b) (id : Nat) : ∃ d y, zx4 600 (zD C, (id : Int), b, t) = some (d, y) /\ (y = 0 -> ∃ C', d = zD C' /\ CG t (m + 1) e C') := by
 obtain ⟨d, y, h1, h2⟩ := zuN hC he hm hT ht0 ht (k := 6) (b := b) (to := 0) (e1 := zE) ⟨.inr (.inr (.inr rfl)), hb, fun h => (by cases h), fun _ => rfl, Int.le_refl _⟩ id
 refine ⟨d, y, ?_, h2⟩
 show (match zd9 600 (zD C, (id : Int), (6, t, b, 0, zE)) with | some y1 => some y1 | none => none) = _
 rw [h1]
end Go.Proofs.YthdgnfcbehcplaaGreatDoor
end
section
namespace Go.Proofs.YthdgnfcbehcplaaGreatDoor
def ixD (A : List RT0) (nm : RT1) : Nat -> Int -> Prop := fun k y => (y = -1 /\ ∀ j (h : j < A.length), k <= j -> nmE A[j] ≠ nm) \/ ∃ j : Nat, y = (j : Int) /\ ∃ h : j < A.length, k <= j /\ nmE A[j] = nm /\ ∀ i (hi : i < A.length), k <= i -> i < j -> nmE A[i] ≠ nm
theorem zhj (A : List RT0) (nm : RT1) (hA : A.length <= 500) : ∀ (d k f : Nat), k + d = A.length -> d < f -> ∃ y, (Z8 600).L f (A.map zB, (k : Int), nm) = some y /\ ∃ z, ixD A nm k z /\ ((z = -1 /\ y = .inr ()) \/ (0 <= z /\ y = .inl z)) := by
 intro d
 induction d with
 | zero =>
  intro k f hk hf
  obtain ⟨f, rfl⟩ := pS hf
  refine ⟨_, ?_, -1, .inl ⟨rfl, fun j h h' => by omega⟩, .inl ⟨rfl, rfl⟩⟩
  show (Z8 600).b _ _ ((Z8 600).L f) some = _
  have e2 : decide ((k : Int) < (A.length : Int)) = false := dF (by omega)
  simp only [Z8]
  simp only [List.length_map, e2]
 | succ d ih =>
  intro k f hk hf
  obtain ⟨f, rfl⟩ := pS hf
  have hkl : k < A.length := by omega
  have e2 : decide ((k : Int) < (A.length : Int)) = true := dT (by omega)
  have h0 : 0 <= (k : Int) := by omega
  by_cases hc : nmE A[k] = nm
  ·refine ⟨_, ?_, (k : Int), .inr ⟨k, rfl, hkl, Nat.le_refl _, hc, fun i hi h1 h2 => by omega⟩, .inr ⟨h0, rfl⟩⟩
   show (Z8 600).b _ _ ((Z8 600).L f) some = _
   have ee := (congrArg (eqP (nmE A[k])) hc).symm.trans (JZ (nmE A[k]))
   simp only [eqP] at ee
   simp only [Z8]
   simp only [List.length_map, e2, h0, if_true, Int.toNat_natCast, zcv A k hkl, nm0, ee]
  ·obtain ⟨y, r1, z, r2, r3⟩ := ih (k + 1) f (by omega) (by omega)
   refine ⟨y, ?_, z, ?_, r3⟩
   ·show (Z8 600).b _ _ ((Z8 600).L f) some = _
    generalize (Z8 600).L f = Lf at r1 |-
    have ee := zbd hc
    simp only [eqP] at ee
    simp only [Z8]
    simp only [List.length_map, e2, h0, if_true, Int.toNat_natCast, zcv A k hkl, nm0, ee, zp (show k < 1000000 by omega)]
    exact r1
   ·rcases r2 with ⟨a, b⟩ | ⟨j, a, b, c, g, i⟩
    ·refine .inl ⟨a, fun j h h' => ?_⟩
     by_cases e : k = j
     ·subst e; exact hc
     ·exact b j h (by omega)
    ·refine .inr ⟨j, a, b, by omega, g, fun l hl h1 h2 => ?_⟩
     by_cases e : k = l
     ·subst e; exact hc
     ·exact i l hl (by omega) h2
theorem zzo (A : List RT0) (nm : RT1) (hA : A.length <= 500) : ∃ z, ztN 600 (A.map zB, nm) = some z /\ ixD A nm 0 z := by
 obtain ⟨y, h1, z, h2, h3⟩ := zhj A nm hA A.length 0 600 (by omega) (by omega)
 replace h1 : (Z8 600).L 600 (A.map zB, 0, nm) = some y := h1
 refine ⟨z, ?_, h2⟩
 simp only [ztN, FSpec.d, zlp, zw2, h1]
 rcases h3 with ⟨rfl, rfl⟩ | ⟨_, rfl⟩ <;> rfl
theorem ixD.rg {A : List RT0} {nm : RT1} {k : Nat} {z : Int} (h : ixD A nm k z) : -1 <= z /\ z < A.length := by
 rcases h with ⟨rfl, _⟩ | ⟨j, rfl, h, _⟩ <;> omega
def ic (L : List Int) : List AV := L.map fun x => AV.v (.int .i64 x)
theorem ze3 (L : List Int) : (ic L).length = L.length := by simp [ic]
theorem J0 (L : List Int) (k : Nat) (h : k < L.length) : (ic L)[k]? = some (AV.v (.int .i64 L[k])) := by simp [ic, h]
theorem zG (L : List Int) : (ic L).map dat0 = ic L := by simp only [ic, List.map_map]; rfl
theorem zqx (L : List Int) (k : Nat) (y : Int) : splice (ic L) k [AV.v (.int .i64 y)] = ic (L.set k y) := by
 show (ic L).set k _ = _
 simp [ic, List.map_set]
theorem zCr (L : List Int) (x : Int) : ic L ++ [AV.v (.int .i64 x)] = ic (L ++ [x]) := by simp [ic]
theorem zzn (L : List Int) (x : Int) (hL : L.length <= 500) : ∀ (d k f : Nat), k + d = L.length -> d < f -> ∃ y, (ZA 600).L f (L.length, x, (k : Int), ic L) = some y /\ ((x ∈ L.drop k /\ y = .inl (true, ic L)) \/ (x ∉ L.drop k /\ y = .inr (ic L))) := by
 intro d
 induction d with
 | zero =>
  intro k f hk hf
  obtain ⟨f, rfl⟩ := pS hf
  refine ⟨_, ?_, .inr ⟨by rw [List.drop_eq_nil_of_le (by omega)]; simp, rfl⟩⟩
  show (ZA 600).b _ _ ((ZA 600).L f) some = _
  have e2 : decide ((k : Int) < ((L.length : Nat) : Int)) = false := dF (by omega)
  simp only [ZA]
  simp only [e2, zG]
 | succ d ih =>
  intro k f hk hf
  obtain ⟨f, rfl⟩ := pS hf
  have hkl : k < L.length := by omega
  have e2 : decide ((k : Int) < ((L.length : Nat) : Int)) = true := dT (by omega)
  have h0 : 0 <= (k : Int) := by omega
  have h1 : (k : Int) < (L.length : Int) := by omega
  have hd := List.drop_eq_getElem_cons hkl
  by_cases hc : L[k] = x
  ·refine ⟨_, ?_, .inl ⟨by rw [hd, hc]; exact List.mem_cons_self, rfl⟩⟩
   show (ZA 600).b _ _ ((ZA 600).L f) some = _
   have e3 : (L[k] == x) = true := by simp [hc]
   simp only [ZA]
   simp only [e2, h0, h1, decide_true, and_self, if_true, Nat.zero_add, Nat.mul_one, Int.toNat_natCast, J0 L k hkl, e3, zG]
  ·obtain ⟨y, r1, r2⟩ := ih (k + 1) f (by omega) (by omega)
   refine ⟨y, ?_, ?_⟩
   ·show (ZA 600).b _ _ ((ZA 600).L f) some = _
    generalize (ZA 600).L f = Lf at r1 |-
    have e3 : (L[k] == x) = false := by simp [hc]
    simp only [ZA]
    simp only [e2, h0, h1, decide_true, and_self, if_true, Nat.zero_add, Nat.mul_one, Int.toNat_natCast, J0 L k hkl, e3, zG, zp (show k < 1000000 by omega)]
    exact r1
   ·rw [hd, List.mem_cons]
    rcases r2 with ⟨a, b⟩ | ⟨a, b⟩
    ·exact .inl ⟨.inr a, b⟩
    ·exact .inr ⟨fun h => h.elim (fun e => hc e.symm) a, b⟩
theorem zEN (L : List Int) (x : Int) (hL : L.length <= 500) : ∃ b, zgK 600 (L.length, x, ic L) = some (b, ic L) /\ (b = true ↔ x ∈ L) := by
 obtain ⟨y, h1, h2⟩ := zzn L x hL L.length 0 600 (by omega) (by omega)
 replace h1 : (ZA 600).L 600 (L.length, x, 0, ic L) = some y := h1
 rw [List.drop_zero] at h2
 simp only [zgK, FSpec.d, zeJ, zoY, zG, h1]
 rcases h2 with ⟨a, rfl⟩ | ⟨a, rfl⟩
 ·exact ⟨true, by simp only [zG], by simp [a]⟩
 ·exact ⟨false, by simp only [zG], by simp [a]⟩
def Rg (n : Nat) (L : List Int) : Prop := ∀ x ∈ L, -1 <= x /\ x < n
theorem Rg.snoc {n : Nat} {L : List Int} {x : Int} (h : Rg n L) (hx : -1 <= x /\ x < n) : Rg n (L ++ [x]) := fun y hy => by
 rcases List.mem_append.1 hy with h1 | h1
 ·exact h y h1
 ·rw [List.mem_singleton.1 h1]; exact hx
theorem Rg.set {n : Nat} {L : List Int} {x : Int} (h : Rg n L) (k : Nat) (hx : -1 <= x /\ x < n) : Rg n (L.set k x) := fun y hy => by
 rcases List.mem_or_eq_of_mem_set hy with h1 | h1
 ·exact h y h1
 ·rw [h1]; exact hx
theorem zqp {T : Int} {m e : Nat} {C : List (List RT7)} (hC : CG T m e C) (he : e <= 500) (hm : m <= 1000) (A : List RT0) (hA : A.length <= 500) : ∀ (d k f : Nat) (L : List Int), k + d = C.length -> d < f -> L.length = k -> Rg A.length L -> ∃ L' : List Int, (Zp 600).L f (k, A.map zB, (k : Int), zD C, ic L) = some (C.length, A.map zB, zD C, ic L') /\ L'.length = C.length /\ Rg A.length L' := by
 intro d
 induction d with
 | zero =>
  intro k f L hk hf hl hr
  obtain ⟨f, rfl⟩ := pS hf
  obtain rfl : k = C.length := by omega
  refine ⟨L, ?_, hl, hr⟩
  show (Zp 600).b _ _ ((Zp 600).L f) some = _
  have e2 : decide ((C.length : Int) < (C.length : Int)) = false := dF (by omega)
  simp only [Zp]
  simp only [zS, e2, zG]
 | succ d ih =>
  intro k f L hk hf hl hr
  obtain ⟨f, rfl⟩ := pS hf
  have hkl : k < C.length := by omega
  have hle := hC.le
  have e2 : decide ((k : Int) < (C.length : Int)) = true := dT (by omega)
  have h0 : 0 <= (k : Int) := by omega
  have hx := hC.xs k hkl
  have hla := ze4 C[k] hx.ne (by have := hx.le; omega)
  obtain ⟨z, i1, i2⟩ := zzo A (nmE (evV (C[k].getLast hx.ne))) hA
  replace i1 : ztN 600 (A.map zB, zpY (C[k].getLast hx.ne)) = some z := i1
  obtain ⟨b, j1, j2⟩ := zEN L z (by omega)
  rw [hl] at j1
  have hst : ∀ x : Int, -1 <= x /\ x < A.length -> ∃ L' : List Int, (Zp 600).L f (k + 1, A.map zB, ((k + 1 : Nat) : Int), zD C, ic (L ++ [x])) = some (C.length, A.map zB, zD C, ic L') /\ L'.length = C.length /\ Rg A.length L' := fun x hx => ih (k + 1) f (L ++ [x]) (by omega) (by omega) (by simp [hl]) (hr.snoc hx)
  have hlen : (ic L).length = k := by rw [ze3, hl]
  have b1 : (k * 1 <= k /\ (k + 1) * 8 <= zh) = True := by unfold zh; simp; omega
  have tk : ∀ x : Int, (ic L).take (k * 1) ++ [[AV.v (.int .i64 x)]].flatten = ic (L ++ [x]) := fun x => by
   rw [Nat.mul_one, <- hlen, List.take_length]
   exact zCr L x
  cases b with
  | true =>
   obtain ⟨L', r1, r2⟩ := hst (-1) (by omega)
   refine ⟨L', ?_, r2⟩
   show (Zp 600).b _ _ ((Zp 600).L f) some = _
   generalize (Zp 600).L f = Lf at r1 |-
   simp only [Zp]
   simp only [zS, e2, h0, if_true, Int.toNat_natCast, zV C k hkl, rd6, hla, i1, zG, j1, hlen, List.length_cons, List.length_nil, Nat.zero_add, b1, tk, zp (show k < 1000000 by omega)]
   exact r1
  | false =>
   obtain ⟨L', r1, r2⟩ := hst z i2.rg
   refine ⟨L', ?_, r2⟩
   show (Zp 600).b _ _ ((Zp 600).L f) some = _
   generalize (Zp 600).L f = Lf at r1 |-
   simp only [Zp]
   simp only [zS, e2, h0, if_true, Int.toNat_natCast, zV C k hkl, rd6, hla, i1, zG, j1, hlen, List.length_cons, List.length_nil, Nat.zero_add, b1, tk, zp (show k < 1000000 by omega)]
   exact r1
theorem zlS {T : Int} {m e : Nat} {C : List (List RT7)} (hC : CG T m e C) (he : e <= 500) (hm : m <= 1000) (A : List RT0) (hA : A.length <= 500) (hpk : ∀ a ∈ A, zaG a) (i : Nat) (hi : i < C.length) : ∀ (d k f : Nat) (L : List Int), k + d = A.length -> d < f -> L.length = C.length -> Rg A.length L -> ∃ L' : List Int, (zQ 600).L f (A.map zB, C.length, (i : Int), (k : Int), zD C, ic L) = some (A.map zB, C.length, (i : Int), zD C, ic L') /\ L'.length = C.length /\ Rg A.length L' := by
 intro d
 induction d with
 | zero =>
  intro k f L hk hf hl hr
  obtain ⟨f, rfl⟩ := pS hf
  refine ⟨L, ?_, hl, hr⟩
  show (zQ 600).b _ _ ((zQ 600).L f) some = _
  have e2 : decide ((k : Int) < (A.length : Int)) = false := dF (by omega)
  simp only [zQ]
  simp only [List.length_map, e2, zG]
 | succ d ih =>
  intro k f L hk hf hl hr
  obtain ⟨f, rfl⟩ := pS hf
  have hkl : k < A.length := by omega
  have hle := hC.le
  have e2 : decide ((k : Int) < (A.length : Int)) = true := dT (by omega)
  have h0 : 0 <= (k : Int) := by omega
  have hi0 : 0 <= (i : Int) := by omega
  have hi1 : (i : Int) < (C.length : Int) := by omega
  have hiL : i < L.length := by omega
  have hx := hC.xs i hi
  have hla := ze4 C[i] hx.ne (by have := hx.le; omega)
  by_cases hneg : L[i] < 0
  case neg =>
   refine ⟨L, ?_, hl, hr⟩
   show (zQ 600).b _ _ ((zQ 600).L f) some = _
   have e3 : decide (L[i] < 0) = false := dF (by omega)
   simp only [zQ]
   simp only [List.length_map, e2, hi0, hi1, and_self, if_true, Nat.zero_add, Nat.mul_one, Int.toNat_natCast, J0 L i hiL, e3, zG]
  have e3 : decide (L[i] < 0) = true := dT (by omega)
  obtain ⟨b, j1, j2⟩ := zEN L (k : Int) (by omega)
  rw [hl] at j1
  cases b with
  | true =>
   obtain ⟨L', r1, r2⟩ := ih (k + 1) f L (by omega) (by omega) hl hr
   refine ⟨L', ?_, r2⟩
   show (zQ 600).b _ _ ((zQ 600).L f) some = _
   generalize (zQ 600).L f = Lf at r1 |-
   simp only [zQ]
   simp only [List.length_map, e2, hi0, hi1, and_self, if_true, Nat.zero_add, Nat.mul_one, Int.toNat_natCast, J0 L i hiL, e3, zG, j1, Bool.not_true, zp (show k < 1000000 by omega)]
   exact r1
  | false =>
   obtain ⟨P, hP1, hP⟩ := hx.last.ev.pk
   obtain ⟨Q, hQ1, hQ⟩ := hpk A[k] (List.getElem_mem _)
   obtain ⟨b2, q1, q2⟩ := zEF P Q (by omega) (by omega)
   have q3 : ztR 600 ((C[i].getLast hx.ne).2.2.2.2.2.2.2.2.2.2.2.2.2.1, Q.map zy) = some b2 := by
    rw [<- hP] at q1; exact q1
   cases b2 with
   | false =>
    obtain ⟨L', r1, r2⟩ := ih (k + 1) f L (by omega) (by omega) hl hr
    refine ⟨L', ?_, r2⟩
    show (zQ 600).b _ _ ((zQ 600).L f) some = _
    generalize (zQ 600).L f = Lf at r1 |-
    simp only [zQ]
    simp only [List.length_map, e2, h0, hi0, hi1, and_self, if_true, Nat.zero_add, Nat.mul_one, Int.toNat_natCast, J0 L i hiL, e3, zG, j1, Bool.not_false, zV C i hi, rd6, hla, zcv A k hkl, pk0, zC5, hQ, q3, zp (show k < 1000000 by omega)]
    exact r1
   | true =>
    obtain ⟨L', r1, r2⟩ := ih (k + 1) f (L.set i (k : Int)) (by omega) (by omega) (by simpa using hl) (hr.set i (by omega))
    refine ⟨L', ?_, r2⟩
    show (zQ 600).b _ _ ((zQ 600).L f) some = _
    generalize (zQ 600).L f = Lf at r1 |-
    have b1 : i + 1 <= (ic L).length := by rw [ze3]; omega
    simp only [zQ]
    simp only [List.length_map, e2, h0, hi0, hi1, and_self, if_true, Nat.zero_add, Nat.mul_one, Int.toNat_natCast, J0 L i hiL, e3, zG, j1, Bool.not_false, zV C i hi, rd6, hla, zcv A k hkl, pk0, zC5, hQ, q3, b1, zqx, zp (show k < 1000000 by omega)]
    exact r1
theorem zlR {T : Int} {m e : Nat} {C : List (List RT7)} (hC : CG T m e C) (he : e <= 500) (hm : m <= 1000) (A : List RT0) (hA : A.length <= 500) (hpk : ∀ a ∈ A, zaG a) : ∀ (d k f : Nat) (L : List Int), k + d = C.length -> d < f -> L.length = C.length -> Rg A.length L -> ∃ L' : List Int, (Zs 600).L f (A.map zB, C.length, (k : Int), zD C, ic L) = some (C.length, ic L') /\ L'.length = C.length /\ Rg A.length L' := by
 intro d
 induction d with
 | zero =>
  intro k f L hk hf hl hr
  obtain ⟨f, rfl⟩ := pS hf
  refine ⟨L, ?_, hl, hr⟩
  show (Zs 600).b _ _ ((Zs 600).L f) some = _
  have e2 : decide ((k : Int) < (C.length : Int)) = false := dF (by omega)
  simp only [Zs]
  simp only [zS, e2, zG]
 | succ d ih =>
  intro k f L hk hf hl hr
  obtain ⟨f, rfl⟩ := pS hf
  have hkl : k < C.length := by omega
  have hle := hC.le
  have e2 : decide ((k : Int) < (C.length : Int)) = true := dT (by omega)
  obtain ⟨L1, a1, a2, a3⟩ := zlS hC he hm A hA hpk k hkl A.length 0 600 L (by omega) (by omega) hl hr
  replace a1 : (zQ 600).L 600 (A.map zB, C.length, (k : Int), 0, zD C, ic L) = _ := a1
  obtain ⟨L', r1, r2⟩ := ih (k + 1) f L1 (by omega) (by omega) a2 a3
  refine ⟨L', ?_, r2⟩
  show (Zs 600).b _ _ ((Zs 600).L f) some = _
  generalize (Zs 600).L f = Lf at r1 |-
  simp only [Zs]
  simp only [zS, e2, zG, zi4, a1, zp (show k < 1000000 by omega)]
  exact r1
theorem zvc {T : Int} {m e : Nat} {C : List (List RT7)} (hC : CG T m e C) (he : e <= 500) (hm : m <= 1000) (A : List RT0) (hA : A.length <= 500) (hpk : ∀ a ∈ A, zaG a) : ∃ L : List Int, zob 600 (zD C, A.map zB) = some (C.length, ic L) /\ L.length = C.length /\ Rg A.length L := by
 have hle := hC.le
 obtain ⟨L1, a1, a2, a3⟩ := zqp hC he hm A hA C.length 0 600 [] (by omega) (by omega) rfl (fun x h => by cases h)
 replace a1 : (Zp 600).L 600 (0, A.map zB, 0, zD C, []) = _ := a1
 obtain ⟨L2, b1, b2, b3⟩ := zlR hC he hm A hA hpk C.length 0 600 L1 (by omega) (by omega) a2 a3
 replace b1 : (Zs 600).L 600 (A.map zB, C.length, 0, zD C, ic L1) = _ := b1
 refine ⟨L2, ?_, b2, b3⟩
 simp only [zob, FSpec.d, zaA, zoc, zi3, a1, zG, b1]
end Go.Proofs.YthdgnfcbehcplaaGreatDoor
end
section
namespace Go.Proofs.YthdgnfcbehcplaaGreatDoor
theorem CG.add {T : Int} {m e : Nat} {C : List (List RT7)} (h : CG T m e C) (hm : 1 <= m) {v : RT7} (hv : VG T (C.length + 1) C.length v) (h1 : kdV v = 1) : CG T m (e + 1) (C ++ [[v]]) := by
 refine ⟨fun k hk => ?_, by have := h.le; simp; omega⟩
 simp at hk
 rw [List.length_append, List.length_singleton]
 by_cases hl : k < C.length
 ·rw [List.getElem_append_left hl]
  exact (h.xs k hl).mono (Int.le_refl _) (by omega) (Nat.le_refl _)
 ·obtain rfl : k = C.length := by omega
  rw [List.getElem_append_right (by omega)]
  simpa using XG.one hm hv h1
def zgd (t : Int) (e : RT0) : RT7 := (1, t, nob, 0, e)
def zvU (t : Int) (e : RT0) : RT7 := (2, t, nob, 0, e)
theorem zp8 {T t : Int} {n i : Nat} {e : RT0} (h0 : 0 <= t) (he : EvG e) : VG t n i (zgd t e) :=
 ⟨.inl rfl, h0, Int.le_refl _, fun _ => rfl, fun h => absurd (.inl rfl) h, fun _ => rfl, fun h => (by cases h), he⟩
theorem zCX {T t : Int} {n i : Nat} {e : RT0} (h0 : 0 <= t) (he : EvG e) : VG t n i (zvU t e) :=
 ⟨.inr (.inl rfl), h0, Int.le_refl _, fun _ => rfl, fun h => absurd (.inr rfl) h, fun _ => rfl, fun h => (by cases h), he⟩
theorem zCb {t : Int} {u : RT7} {e : RT0} (ht : atV u <= t) (ho : jB (kdV u) = true) : Stp u (zgd t e) := ⟨ht, ho, fun h => by cases h⟩
theorem zCY {t : Int} {u : RT7} (ht : atV u <= t) (ho : jB (kdV u) = true) (h2 : kdV u ≠ 2) : Stp u (zvU t (evV u)) := ⟨ht, by
 show (kdV u == 1 || kdV u == 6) = true
 unfold jB at ho
 have : (kdV u == 2) = false := by simpa using h2
 rw [this, Bool.false_or] at ho
 exact ho, fun _ => rfl⟩
open Classical in
noncomputable def zcx (A : List RT0) (t : Int) (u : RT7) (k : Int) : Option RT7 :=
 if jB (kdV u) = true then
  if h : 0 <= k /\ k < A.length then
   if JF (kdV u) = true /\ evV u = A[k.toNat] then none else some (zgd t A[k.toNat])
  else if kdV u = 2 then none else some (zvU t (evV u))
 else none
theorem zxC {A : List RT0} (hA : ∀ a ∈ A, EvG a) {T t : Int} {n i m : Nat} {x : List RT7} (hx : XG T n i m x) (hT : T <= t) {k : Int} {v : RT7} (h : zcx A t (x.getLast hx.ne) k = some v) : VG t n i v /\ Stp (x.getLast hx.ne) v := by
 have hL := hx.last
 have h0 : 0 <= t := Int.le_trans hL.at0 (Int.le_trans hL.atT hT)
 have h1 : atV (x.getLast hx.ne) <= t := Int.le_trans hL.atT hT
 unfold zcx at h
 split at h
 ·rename_i ho
  split at h
  ·split at h
   ·cases h
   ·obtain rfl := Option.some.inj h
    exact ⟨zp8 (T := T) h0 (hA _ (List.getElem_mem _)), zCb h1 ho⟩
  ·split at h
   ·cases h
   ·rename_i h2
    obtain rfl := Option.some.inj h
    exact ⟨zCX (T := T) h0 hL.ev, zCY h1 ho h2⟩
 ·cases h
theorem zzR (A : List RT0) (hA : ∀ a ∈ A, EvG a) (t : Int) (u : RT7) (hu : EvG (evV u)) (k i : Int) (hk : -1 <= k /\ k < A.length) (ch : List (List AV)) (n N : Nat) (X Y : List (List AV)) (cs ci : List AV) (hcs : cs.map datF = cs) (hci : ci.map dat0 = ci) (j M : Nat) :
  ∃ s v, zc3 600 (ch, A.map zB, t, n, i, (kdV u == 2), k, decide (k >= 0), X, Y, N, u, zvU t (evV u), cs, ci, j, M) = some (ch, A.map zB, t, n, i, s, X, Y, N, u, v, cs, ci, j, M) /\ (jB (kdV u) = true -> zcx A t u k = if s = true then none else some v) := by
 have hu' : ∀ y, (jw 600).b (ch, A.map zB, t, n, i, (kdV u == 2), k, decide (k >= 0), X, Y, N, u, zvU t (evV u), cs, ci, j, M) _ ((jw 600).L 599) some = y -> zc3 600 (ch, A.map zB, t, n, i, (kdV u == 2), k, decide (k >= 0), X, Y, N, u, zvU t (evV u), cs, ci, j, M) = y := fun y h => h
 by_cases hk0 : 0 <= k
 ·obtain ⟨j', rfl⟩ : ∃ j' : Nat, k = (j' : Int) := ⟨k.toNat, by omega⟩
  have hj : j' < A.length := by omega
  have e1 : decide ((j' : Int) >= 0) = true := dT (by omega)
  have hs := zzZ 600 u
  have hnv : ∀ s v, (s = true ↔ (JF (kdV u) = true /\ evV u = A[j'])) -> v = zgd t A[j'] -> jB (kdV u) = true -> zcx A t u (j' : Int) = if s = true then none else some v := fun s v h1 h2 ho => by
   unfold zcx
   rw [if_pos ho, dif_pos ⟨hk0, by omega⟩]
   simp only [Int.toNat_natCast, h2]
   by_cases c : s = true
   ·rw [if_pos c, if_pos (h1.1 c)]
   ·rw [if_neg c, if_neg (fun h => c (h1.2 h))]
  cases hsh : JF (kdV u) with
  | false =>
   rw [hsh] at hs
   refine ⟨false, zgd t A[j'], hu' _ ?_, hnv _ _ (by simp [hsh]) rfl⟩
   simp only [jw]
   simp only [e1, hk0, if_true, Int.toNat_natCast, zcv A j' hj, ZL, hs, hcs, hci]
   rfl
  | true =>
   rw [hsh] at hs
   obtain ⟨b, q1, q2⟩ := zf6 (evV u) A[j'] hu.pk (hA _ (List.getElem_mem _)).pk
   replace q1 : zc6 600 (zw u, A[j']) = some b := q1
   refine ⟨b, zgd t A[j'], hu' _ ?_, hnv _ _ (by rw [q2]; simp [hsh]) rfl⟩
   simp only [jw]
   simp only [e1, hk0, if_true, Int.toNat_natCast, zcv A j' hj, ZL, hs, hcs, hci, q1]
   rfl
 ·have e1 : decide (k >= 0) = false := dF (by omega)
  refine ⟨(kdV u == 2), zvU t (evV u), hu' _ ?_, ?_⟩
  ·simp only [jw]
   simp only [e1, hcs, hci]
  ·intro ho
   unfold zcx
   rw [if_pos ho, dif_neg (fun h => hk0 h.1)]
   by_cases c : kdV u = 2
   ·rw [if_pos c, if_pos (by simpa using c)]
   ·rw [if_neg c, if_neg (by simpa using c)]
theorem zl0 {T t : Int} {m e : Nat} {C : List (List RT7)} (hC : CG T m e C) (he : e <= 500) (hm : m < 100) (hT : T <= t) (A : List RT0) (hA : ∀ a ∈ A, EvG a) (L : List Int) (hL : L.length = C.length) (hr : Rg A.length L) (X : List (List AV)) : ∀ (d k f : Nat) (ch : List (List AV)) (D : List (List RT7)) (cs : List AV) (j : Nat), k + d = C.length -> d < f -> j <= k -> ch.length <= k -> D.length = C.length -> (∀ i (h : i < D.length) (h' : i < C.length), k <= i -> D[i] = C[i]) -> FC D j cs -> CG t (m + 1) e D ->
  ∃ (ch' : List (List AV)) (D' : List (List RT7)) (cs' : List AV) (j' : Nat), (Zu 600).L f (ch, A.map zB, t, C.length, (k : Int), zD C, X, C.length, cs, ic L, j, C.length) = some (.inr (ch', A.map zB, t, C.length, X, C.length, cs', ic L, j', C.length)) /\ ch'.length <= C.length /\ D'.length = C.length /\ FC D' j' cs' /\ CG t (m + 1) e D' := by
 intro d
 induction d with
 | zero =>
  intro k f ch D cs j hk hf hj hch hD hDC hF hG
  obtain ⟨f, rfl⟩ := pS hf
  refine ⟨ch, D, cs, j, ?_, by omega, hD, hF, hG⟩
  show (Zu 600).b _ _ ((Zu 600).L f) some = _
  have e2 : decide ((k : Int) < ((C.length : Nat) : Int)) = false := dF (by omega)
  simp only [Zu]
  simp only [e2, zG, hF.dF]
 | succ d ih =>
  intro k f ch D cs j hk hf hj hch hD hDC hF hG
  obtain ⟨f, rfl⟩ := pS hf
  have hkl : k < C.length := by omega
  have hkd : k < D.length := by omega
  have hle := hC.le
  have e2 : decide ((k : Int) < ((C.length : Nat) : Int)) = true := dT (by omega)
  have h0 : 0 <= (k : Int) := by omega
  have hk1 : (k : Int) < (C.length : Int) := by omega
  have hkL : k < L.length := by omega
  have hx := hC.xs k hkl
  have hxl := hx.le
  have hla := ze4 C[k] hx.ne (by omega)
  obtain ⟨u, hu⟩ : ∃ u, u = C[k].getLast hx.ne := ⟨_, rfl⟩
  rw [<- hu] at hla
  have hLast := hx.last
  rw [<- hu] at hLast
  have hop := zqM 600 u
  obtain ⟨s, v, a1, a2⟩ := zzR A hA t u hLast.ev L[k] (k : Int) (hr _ (List.getElem_mem _)) ch C.length C.length (zD C) X cs (ic L) hF.dF (zG L) j C.length
  have n1 := zp (show k < 1000000 by omega)
  by_cases hadd : jB (kdV u) = true /\ s = false
  ·obtain ⟨ho, rfl⟩ := hadd
   rw [ho] at hop
   have hnv := a2 ho
   simp only [Bool.false_eq_true, if_false] at hnv
   rw [hu] at hnv
   obtain ⟨g1, g2⟩ := zxC hA hx hT hnv
   have hDk : D[k] = C[k] := hDC k hkd hkl (Nat.le_refl _)
   have hG' : CG t (m + 1) e (D.set k (D[k] ++ [v])) := by
    refine ⟨fun i hi => ?_, by simpa using hG.le⟩
    simp at hi
    rw [List.length_set, List.getElem_set]
    split
    ·rename_i e'; subst e'
     rw [hDk, hD]
     exact hx.snoc hT g1 g2
    ·exact hG.xs i hi
   obtain ⟨tk, q3, _, q4⟩ := hF.2 k hkd
   rw [q4 hj, hDk] at q3
   have hF' := (hF.to hj).set hkd (D[k] ++ [v]) (q := 6592) (by unfold TOB; omega)
   obtain ⟨ch', D', cs', j', r1, r2⟩ := ih (k + 1) f (ch ++ [[AV.v (.int .i64 (k : Int))]]) _ _ (k + 1) (by omega) (by omega) (by omega) (by simp; omega) (by simpa using hD) (fun i h h' hi => by
    rw [List.getElem_set_ne (by omega)]
    exact hDC i (by simpa using h) h' (by omega)) hF' hG'
   refine ⟨ch', D', cs', j', ?_, r2⟩
   show (Zu 600).b _ _ ((Zu 600).L f) some = _
   generalize (Zu 600).L f = Lf at r1 |-
   have a1' : zc3 600 (ch, A.map zB, t, C.length, (k : Int), (u.1 == 2), L[k], decide (L[k] >= 0), zD C, X, C.length, u, (2, t, (⟨#[]⟩ : ByteArray), 0, u.2.2.2.2), cs, ic L, j, C.length) = _ := a1
   have hr' : (C[k].map zK) ++ [zK v] = (D[k] ++ [v]).map zK := by rw [hDk]; simp
   have b1 : ((C[k].map zK).length + [zK v].length) * 288 <= zh := by unfold zh; simp; omega
   have b2 : k + 1 <= cs.length := by rw [hF.1]; omega
   have b3 : (ch.length + [[AV.v (.int .i64 (k : Int))]].length) * 8 <= zh := by unfold zh; simp; omega
   have sp : (splice cs k [AV.list 29 ((D[k] ++ [v]).map zK) (some 6592)])[k]? = some (AV.list 29 ((D[k] ++ [v]).map zK) (some 6592)) := by
    show (cs.set k _)[k]? = _
    rw [List.getElem?_set_self (by omega)]
   have l1 : jf 29 (AV.list 29 ((D[k] ++ [v]).map zK) (some 6592)) = some ((D[k] ++ [v]).map zK) := by simp [jf]
   have c1 : decide ((((D[k] ++ [v]).map zK).length : Int) > 100) = false := by rw [decide_eq_false_iff_not, hDk]; simp; omega
   simp only [Zu]
   simp only [e2, h0, hk1, decide_true, and_self, if_true, Int.toNat_natCast, zV C k hkl, rd6, hla, Nat.zero_add, Nat.mul_one, Nat.add_zero, J0 L k hkL, hF.dF, zG, a1', hop, Bool.not_false, q3, hj, hkl, hr', b2, b3, sp, l1, c1, n1]
   rw [if_pos b1]
   exact r1
  ·obtain ⟨ch', D', cs', j', r1, r2⟩ := ih (k + 1) f ch D cs j (by omega) (by omega) (by omega) (by omega) hD (fun i h h' hi => hDC i h h' (by omega)) hF hG
   refine ⟨ch', D', cs', j', ?_, r2⟩
   show (Zu 600).b _ _ ((Zu 600).L f) some = _
   generalize (Zu 600).L f = Lf at r1 |-
   have a1' : zc3 600 (ch, A.map zB, t, C.length, (k : Int), (u.1 == 2), L[k], decide (L[k] >= 0), zD C, X, C.length, u, (2, t, (⟨#[]⟩ : ByteArray), 0, u.2.2.2.2), cs, ic L, j, C.length) = _ := a1
   simp only [Zu]
   simp only [e2, h0, hk1, decide_true, and_self, if_true, Int.toNat_natCast, zV C k hkl, rd6, hla, Nat.zero_add, Nat.mul_one, Nat.add_zero, J0 L k hkL, hF.dF, zG, a1', hop, n1]
   cases ho : jB (kdV u) with
   | false => exact r1
   | true =>
    cases s with
    | true => exact r1
    | false => exact absurd ⟨ho, rfl⟩ hadd
end Go.Proofs.YthdgnfcbehcplaaGreatDoor
end
section
namespace Go.Proofs.YthdgnfcbehcplaaGreatDoor
theorem zjm (D : List (List RT7)) (v : RT7) : ((zaH D).take (D.length * 1) ++ [AV.list 29 [zK v] none]).map dat0 = zaH (D ++ [[v]]) := by
 rw [Nat.mul_one, List.take_of_length_le (by rw [zbc]; exact Nat.le_refl _), List.map_append, j3, <- zuW]
 rfl
theorem zl1 {t : Int} (h0 : 0 <= t) (A : List RT0) (hA : ∀ a ∈ A, EvG a) (hAl : A.length <= 100) (L : List Int) (hL : L.length <= 500) (X : List (List AV)) {m : Nat} (hm : 1 <= m) : ∀ (d k f e : Nat) (ch : List (List AV)) (D : List (List RT7)), k + d = A.length -> d < f -> e + d <= 500 -> ch.length <= e -> CG t m e D ->
  ∃ (ch' : List (List AV)) (D' : List (List RT7)), (Zv 600).L f (ch, A.map zB, t, L.length, (k : Int), X, D.length, ic L, zaH D) = some (ch', X, D'.length, zaH D') /\ CG t m (e + d) D' := by
 intro d
 induction d with
 | zero =>
  intro k f e ch D hk hf he hch hG
  obtain ⟨f, rfl⟩ := pS hf
  refine ⟨ch, D, ?_, hG⟩
  show (Zv 600).b _ _ ((Zv 600).L f) some = _
  have e2 : decide ((k : Int) < (A.length : Int)) = false := dF (by omega)
  simp only [Zv]
  simp only [List.length_map, e2, j3]
 | succ d ih =>
  intro k f e ch D hk hf he hch hG
  obtain ⟨f, rfl⟩ := pS hf
  have hkl : k < A.length := by omega
  have hDl := hG.le
  have e2 : decide ((k : Int) < (A.length : Int)) = true := dT (by omega)
  have h0 : 0 <= (k : Int) := by omega
  have n1 := zp (show k < 1000000 by omega)
  obtain ⟨b, j1, j2⟩ := zEN L (k : Int) hL
  cases b with
  | true =>
   obtain ⟨ch', D', r1, r2⟩ := ih (k + 1) f e ch D (by omega) (by omega) (by omega) hch hG
   refine ⟨ch', D', ?_, r2.mono (Int.le_refl _) (Nat.le_refl _) (by omega)⟩
   show (Zv 600).b _ _ ((Zv 600).L f) some = _
   generalize (Zv 600).L f = Lf at r1 |-
   simp only [Zv]
   simp only [List.length_map, e2, j3, zG, j1, Bool.not_true, n1]
   exact r1
  | false =>
   have hv : VG t (D.length + 1) D.length (zgd t A[k]) := zp8 (T := t) (by assumption) (hA _ (List.getElem_mem _))
   obtain ⟨ch', D', r1, r2⟩ := ih (k + 1) f (e + 1) (ch ++ [[AV.v (.int .i64 ((D.length : Nat) : Int))]]) (D ++ [[zgd t A[k]]]) (by omega) (by omega) (by omega) (by simp; omega) (hG.add hm hv rfl)
   refine ⟨ch', D', ?_, r2.mono (Int.le_refl _) (Nat.le_refl _) (by omega)⟩
   have hl1 : (D ++ [[zgd t A[k]]]).length = D.length + 1 := by simp
   rw [hl1, <- zjm] at r1
   show (Zv 600).b _ _ ((Zv 600).L f) some = _
   generalize (Zv 600).L f = Lf at r1 |-
   have b1 : (ch.length + 1) * 8 <= zh := by unfold zh; omega
   have b2 : (D.length * 1 <= (zaH D).length /\ (D.length + 1) * 24 <= zh) := by rw [zbc]; unfold zh; omega
   simp only [Zv]
   simp only [List.length_map, e2, j3, zG, j1, Bool.not_false, n1, h0, if_true, Int.toNat_natCast, zcv A k hkl, ZL, List.length_cons, List.length_nil, Nat.zero_add]
   rw [if_pos b1]
   exact (if_pos b2).trans r1
theorem zqT {T t : Int} {m e : Nat} {C : List (List RT7)} (hC : CG T m e C) {A : List RT0} {M : Nat} (hM : M <= 5) (hA : Evs 0 M A) (he : e + M <= 500) (hm : m < 100) (hT : T <= t) (ht0 : 0 <= t) (ht : t <= 18014398509481984) : ∃ C' l, zse 600 (zD C, A.map zB, t) = some (zD C', l, 0) /\ CG t (m + 1) (e + M) C' := by
 have hle := hC.le
 have hAl := zdC hA
 have hg : ∀ a ∈ A, EvG a := fun a ha => (hA.evn hM a ha).g
 have hV := zpZ (by omega) (by omega) (by omega) hC
 have hE := zcg hM hA
 have hL := zjJ hT (by omega) (by omega) hC
 obtain ⟨cs, q1, q2⟩ := zxr (C := C) (by omega) (hC.small (by omega))
 obtain ⟨L, f1, f2, f3⟩ := zvc hC (by omega) (by omega) A (by omega) (fun a ha => (hg a ha).pk)
 obtain ⟨ch, D, cs', j, p1, p2, p3, p4, p5⟩ := zl0 hC (by omega) hm hT A hg L f2 f3 [] C.length 0 600 [] C cs 0 (by omega) (by omega) (by omega) (by simp) rfl (fun i h h' _ => rfl) q2 (hC.mono hT (by omega) (Nat.le_refl _))
 obtain ⟨ch2, D2, s1, s2⟩ := zl1 ht0 A hg (by omega) L (by omega) [] (m := m + 1) (by omega) A.length 0 600 (e + (M - A.length)) ch D (by omega) (by omega) (by omega) (by omega) (p5.mono (Int.le_refl _) (Nat.le_refl _) (by omega))
 replace p1 : (Zu 600).L 600 ([], A.map zB, t, C.length, 0, zD C, [], C.length, cs, ic L, 0, C.length) = _ := p1
 replace s1 : (Zv 600).L 600 (ch, A.map zB, t, L.length, 0, [], D.length, ic L, zaH D) = _ := s1
 rw [f2, p3] at s1
 have s3 : CG t (m + 1) (e + M) D2 := s2.mono (Int.le_refl _) (Nat.le_refl _) (by omega)
 have s4 := s3.le
 have n5 : decide (t < 0) = false := dF (by omega)
 have n6 : decide (t > 18014398509481984) = false := dF (by omega)
 have n7 : decide (((D2.length : Nat) : Int) > 500) = false := dF (by omega)
 have n8 : D2.length * 1 <= (zaH D2).length := by rw [zbc]; omega
 refine ⟨D2, ch2, ?_, s3⟩
 simp only [zse, FSpec.d, zd6, hV, hE, hL, Bool.not_true, n5, n6, q1, q2.dJ, q2.dF, f1, zG, zn3, p1, zn4, p4.d0, s1, n7]
 rw [if_pos n8, zeY]
theorem zgb {xs : List Int} {p : Int} (D : Sc xs p) : ∃ b p', zhJ 600 ([[AV.v (.string (⟨#[97, 110, 110]⟩ : ByteArray))], [AV.v (.string (⟨#[98, 111, 98]⟩ : ByteArray))]], zF xs, p) = some (b, zF xs, p') /\ Per b /\ Sc xs p' := by
 obtain ⟨v, p1, h1, m1, D1⟩ := zcF 600 (n := 2) (by omega) D
 replace h1 : jU 600 ((([[AV.v (.string (⟨#[97, 110, 110]⟩ : ByteArray))], [AV.v (.string (⟨#[98, 111, 98]⟩ : ByteArray))]] : List (List AV)).length : Int), zF xs, p) = some (v, zF xs, p1) := h1
 have h0 : 0 <= v := m1.1
 rcases (show v = 0 \/ v = 1 by omega) with rfl | rfl
 ·refine ⟨ann, p1, ?_, .inl rfl, D1⟩
  simp only [zhJ, FSpec.d, zxP, h1]
  rfl
 ·refine ⟨bob, p1, ?_, .inr rfl, D1⟩
  simp only [zhJ, FSpec.d, zxP, h1]
  rfl
theorem zlT {xs : List Int} (n : Nat) (hn : n <= 50) (X : List (List AV)) : ∀ (d i f : Nat) (p now : Int) (C : List (List RT7)), i + d = n -> d < f -> Sc xs p -> 100 <= now -> now <= 100 + 50 * i -> CG now i (4 * i) C ->
  ∃ (now' p' : Int) (C' : List (List RT7)), (jT 600).L f ((n : Int), now, (i : Int), zF xs, p, X, zD C) = some (now', zF xs, p', X, zD C') /\ Sc xs p' /\ 100 <= now' /\ now' <= 100 + 50 * n /\ CG now' n (4 * n) C' := by
 intro d
 induction d with
 | zero =>
  intro i f p now C hi hf D h1 h2 hC
  obtain ⟨f, rfl⟩ := pS hf
  obtain rfl : i = n := by omega
  refine ⟨now, p, C, ?_, D, h1, h2, hC⟩
  show (jT 600).b _ _ ((jT 600).L f) some = _
  have e2 : decide ((i : Int) < (i : Int)) = false := dF (by omega)
  simp only [jT]
  simp only [e2]
 | succ d ih =>
  intro i f p now C hi hf D h1 h2 hC
  obtain ⟨f, rfl⟩ := pS hf
  have hle := hC.le
  have e2 : decide ((i : Int) < (n : Int)) = true := dT (by omega)
  have n1 := zp (show i < 1000000 by omega)
  obtain ⟨a1, p1, g1, m1, D1⟩ := zcF 600 (n := 50) (by omega) D
  obtain ⟨mx, hmx⟩ : ∃ mx : Int, mx = if (C.length : Int) > 1 then (C.length : Int) else 1 := ⟨_, rfl⟩
  have hmx' : 1 <= mx /\ mx <= 1000 := by rw [hmx]; split <;> omega
  obtain ⟨a2, p2, g2, m2, D2⟩ := zcF 600 (n := mx) (by omega) D1
  obtain ⟨a3, p3, g3, m3, D3⟩ := zcF 600 (n := 8) (by omega) D2
  have i1 : i64 (now + a1) = now + a1 := Zr (by omega)
  obtain ⟨id, hid⟩ : ∃ id : Nat, a2 = (id : Int) := ⟨a2.toNat, by omega⟩
  subst hid
  have hgo : ∀ (q : Int) (C' : List (List RT7)), Sc xs q -> CG (now + a1) (i + 1) (4 * (i + 1)) C' -> ∃ (now' p' : Int) (C'' : List (List RT7)), (jT 600).L f ((n : Int), now + a1, ((i + 1 : Nat) : Int), zF xs, q, X, zD C') = some (now', zF xs, p', X, zD C'') /\ Sc xs p' /\ 100 <= now' /\ now' <= 100 + 50 * n /\ CG now' n (4 * n) C'' := fun q C' hq hc => ih (i + 1) f q (now + a1) C' (by omega) (by omega) hq (by omega) (by omega) hc
  have hkeep : CG (now + a1) (i + 1) (4 * (i + 1)) C := hC.mono (by omega) (by omega) (by omega)
  have hres : ∀ y, (jT 600).b ((n : Int), now, (i : Int), zF xs, p, X, zD C) _ ((jT 600).L f) some = y -> (jT 600).L (f + 1) ((n : Int), now, (i : Int), zF xs, p, X, zD C) = y := fun y h => h
  have key : ∃ (q : Int) (C' : List (List RT7)), (jT 600).b ((n : Int), now, (i : Int), zF xs, p, X, zD C) _ ((jT 600).L f) some = (jT 600).L f ((n : Int), now + a1, ((i + 1 : Nat) : Int), zF xs, q, X, zD C') /\ Sc xs q /\ CG (now + a1) (i + 1) (4 * (i + 1)) C' := by
   obtain ⟨Lf, hLf⟩ : ∃ Lf, Lf = (jT 600).L f := ⟨_, rfl⟩
   rw [<- hLf]
   simp only [jT]
   simp only [e2, g1, zS, <- hmx, g2, g3, i1, n1]
   have he0 : 4 * i <= 500 := by omega
   rcases (show a3 = 0 \/ a3 = 1 \/ a3 = 2 \/ a3 = 3 \/ 4 <= a3 by omega) with rfl | rfl | rfl | rfl | h4
   ·have c0 : ((0 : Int) == 0) = true := by decide
    simp only [c0]
    obtain ⟨A, p4, g4, l4, v4, D4⟩ := zqi 4 (by omega) D3
    replace g4 : zgv 600 (4, zF xs, p3) = some (A.map zB, zF xs, p4) := g4
    simp only [g4, List.length_map]
    by_cases hA : 0 < A.length
    ·have c1 : decide ((A.length : Int) > 0) = true := dT (by omega)
     obtain ⟨b, p5, g5, hb, D5⟩ := zgb D4
     obtain ⟨a6, p6, g6, m6, D6⟩ := zcF 600 (n := (A.length : Int)) (by omega) D5
     obtain ⟨z, rfl⟩ : ∃ z : Nat, a6 = (z : Int) := ⟨a6.toNat, by omega⟩
     have hz : z < A.length := by omega
     have hz0 : 0 <= (z : Int) := by omega
     obtain ⟨d1, y1, r1, r2⟩ := zvE hC he0 (by omega) (t := now + a1) (by omega) (by omega) (by omega) hb (v4.evn (by omega) A[z] (List.getElem_mem _)).g id
     simp only [c1, g5, g6, hz0, if_true, Int.toNat_natCast, zcv A z hz, ZL, r1]
     by_cases hy : y1 = 0
     ·obtain ⟨C', rfl, hC'⟩ := r2 hy
      have c2 : (y1 == 0) = true := by simp [hy]
      simp only [c2]
      exact ⟨p6, C', rfl, D6, hC'.mono (Int.le_refl _) (Nat.le_refl _) (by omega)⟩
     ·have c2 : (y1 == 0) = false := by simp [hy]
      simp only [c2]
      exact ⟨p6, C, rfl, D6, hkeep⟩
    ·have c1 : decide ((A.length : Int) > 0) = false := dF (by omega)
     simp only [c1]
     exact ⟨p4, C, rfl, D4, hkeep⟩
   ·have c0 : ((1 : Int) == 0) = false := by decide
    have c1 : ((1 : Int) == 1) = true := by decide
    obtain ⟨b, p5, g5, hb, D5⟩ := zgb D3
    obtain ⟨d1, y1, r1, r2⟩ := zu5 hC he0 (by omega) (t := now + a1) (by omega) (by omega) (by omega) hb id
    simp only [c0, c1, g5, r1]
    by_cases hy : y1 = 0
    ·obtain ⟨C', rfl, hC'⟩ := r2 hy
     have c2 : (y1 == 0) = true := by simp [hy]
     simp only [c2]
     exact ⟨p5, C', rfl, D5, hC'.mono (Int.le_refl _) (Nat.le_refl _) (by omega)⟩
    ·have c2 : (y1 == 0) = false := by simp [hy]
     simp only [c2]
     exact ⟨p5, C, rfl, D5, hkeep⟩
   ·have c0 : ((2 : Int) == 0) = false := by decide
    have c1 : ((2 : Int) == 1) = false := by decide
    have c2 : ((2 : Int) == 2) = true := by decide
    obtain ⟨a4, p4, g4, m4, D4⟩ := zcF 600 (n := mx) (by omega) D3
    obtain ⟨to, rfl⟩ : ∃ to : Nat, a4 = (to : Int) := ⟨a4.toNat, by omega⟩
    obtain ⟨b, p5, g5, hb, D5⟩ := zgb D4
    obtain ⟨d1, y1, r1, r2⟩ := zzw hC he0 (by omega) (t := now + a1) (by omega) (by omega) (by omega) hb id to
    simp only [c0, c1, c2, g4, g5, r1]
    by_cases hy : y1 = 0
    ·obtain ⟨C', rfl, hC'⟩ := r2 hy
     have c2 : (y1 == 0) = true := by simp [hy]
     simp only [c2]
     exact ⟨p5, C', rfl, D5, hC'.mono (Int.le_refl _) (Nat.le_refl _) (by omega)⟩
    ·have c2 : (y1 == 0) = false := by simp [hy]
     simp only [c2]
     exact ⟨p5, C, rfl, D5, hkeep⟩
   ·have c0 : ((3 : Int) == 0) = false := by decide
    have c1 : ((3 : Int) == 1) = false := by decide
    have c2 : ((3 : Int) == 2) = false := by decide
    have c3 : ((3 : Int) == 3) = true := by decide
    obtain ⟨b, p5, g5, hb, D5⟩ := zgb D3
    obtain ⟨d1, y1, r1, r2⟩ := zqY hC he0 (by omega) (t := now + a1) (by omega) (by omega) (by omega) hb id
    simp only [c0, c1, c2, c3, g5, r1]
    by_cases hy : y1 = 0
    ·obtain ⟨C', rfl, hC'⟩ := r2 hy
     have c2 : (y1 == 0) = true := by simp [hy]
     simp only [c2]
     exact ⟨p5, C', rfl, D5, hC'.mono (Int.le_refl _) (Nat.le_refl _) (by omega)⟩
    ·have c2 : (y1 == 0) = false := by simp [hy]
     simp only [c2]
     exact ⟨p5, C, rfl, D5, hkeep⟩
   ·have c0 : (a3 == 0) = false := by simp; omega
    have c1 : (a3 == 1) = false := by simp; omega
    have c2 : (a3 == 2) = false := by simp; omega
    have c3 : (a3 == 3) = false := by simp; omega
    obtain ⟨A, p4, g4, l4, v4, D4⟩ := zqi 4 (by omega) D3
    replace g4 : zgv 600 (4, zF xs, p3) = some (A.map zB, zF xs, p4) := g4
    obtain ⟨C', l, r1, r2⟩ := zqT hC (by omega) v4 (by omega) (by omega) (t := now + a1) (by omega) (by omega) (by omega)
    have c4 : ((0 : Int) == 0) = true := by decide
    simp only [c0, c1, c2, c3, g4, r1, c4]
    exact ⟨p4, C', rfl, D4, r2.mono (Int.le_refl _) (Nat.le_refl _) (by omega)⟩
  obtain ⟨q, C', k1, k2, k3⟩ := key
  obtain ⟨now', p', C'', s1, s2⟩ := hgo q C' k2 k3
  exact ⟨now', p', C'', hres _ (k1.trans s1), s2⟩
theorem zvd {xs : List Int} {p : Int} (D : Sc xs p) (n : Nat) (hn : n <= 50) : ∃ (C : List (List RT7)) (t p' : Int), zxN 600 ((n : Int), zF xs, p) = some (zD C, t, zF xs, p') /\ Sc xs p' /\ 100 <= t /\ t <= 100 + 50 * n /\ CG t n (4 * n) C := by
 obtain ⟨t, p', C, h1, h2, h3, h4, h5⟩ := zlT n hn [] n 0 600 p 100 [] (by omega) (by omega) D (by omega) (by omega) (CG.nil _ _ _)
 replace h1 : (jT 600).L 600 ((n : Int), 100, 0, zF xs, p, [], []) = _ := h1
 refine ⟨C, t, p', ?_, h2, h3, h4, h5⟩
 simp only [zxN, FSpec.d, zAv, zv4, h1]
end Go.Proofs.YthdgnfcbehcplaaGreatDoor
end
