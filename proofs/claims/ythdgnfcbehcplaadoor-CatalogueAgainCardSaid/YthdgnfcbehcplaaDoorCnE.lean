/- Several texts as one (written by pack.py). -/
import Derived.Test.YthdgnfcbehcplaaDoorCnD
set_option linter.unusedVariables false
set_option linter.unusedSimpArgs false
set_option linter.unnecessarySimpa false
section
namespace Go.Proofs.YthdgnfcbehcplaaDoor
noncomputable section
open Go.RowKit
set_option maxRecDepth 4000
set_option maxHeartbeats 4000000
def zvv : Nat -> Keep × Keep := anL []
def zC0 (N : Nat) : GamK := gam (P := qP) []
def zmZ (N : Nat) : FSpec where
 X := qL
 Y := qL
 ash := [[some 29]]
 S := ⟨[[none]], [], [some 29], [], []⟩
 pat := fun a b => rdA [.lst 29] [] a b fun ⟨a0, _⟩ _ => a0
 args := fun x => [(AV.list 29 x none)]
 ret := fun y => ⟨(AV.fn (.func 91) [] [(AV.ptr 0 0)]), [], some [(AV.list 29 y none)], [], [], [], none⟩
 t := fun x α k => (k x)
abbrev zDD (N : Nat) (x : qL) : Option (qL) := (zmZ N).d x
theorem zrS (N : Nat) : Zd (zmZ N).t := by
 intro x α β k k' r r' h h1
 revert h
 dsimp only [zmZ]
 (repeat' (first | (with_reducible refine ze ?_ ?_) | split)) <;> intro h <;> first | exact h1 _ h | cases h
theorem ztF (N : Nat) : Zf (zn qP) (zC0 N) zvv (lam N []) Tryd.f67 (zmZ N) := fun x => by kernel_rfl
def zDo (N : Nat) : Ent qP := zx (zd qP) (zi _) zl 67 Tryd.f67 Tryd.func67 rfl zvv (lam N []) (zm (l := []) an (by kernel_rfl)) (zmZ N) (fun _ => ⟨rfl, rfl⟩) (ztF N) (fun _ _ _ h => zu h (fun _ _ => rfl) (fun _ _ => rfl)) (zrS N)
def zeU : Nat -> Keep × Keep := anL []
def zlL (N : Nat) : GamK := gam (P := qP) [zsA N]
def ZT (N : Nat) : FSpec where
 X := Int × RT7 × Int × qL
 Y := Bool × Int × qL
 ash := []
 S := ⟨[], [[none], [some 2000025]], [], [6400262144], []⟩
 pat := fun a b => rdA [.any, .any, .any, .ptr 0 0, .any, .ptr 1 0, .any, .any, .any, .any, .any, .any, .any, .any, .any, .any, .any, .any, .any, .any, .any, .any, .any, .int .i64, .agg RK7, .any, .any, .any, .any, .any, .any, .any, .any, .any, .any, .any, .any, .any, .any, .any, .any] [.cells [.int .i64], .cells [.tok 25 6400262144]] a b fun ⟨_, _, _, _, _, _, _, _, _, _, _, _, _, _, _, _, _, _, _, _, _, _, _, a0, a1, _, _, _, _, _, _, _, _, _, _, _, _, _, _, _, _, _⟩ ⟨⟨a2, _⟩, ⟨a3, _⟩, _⟩ => (a0, a1, a2, a3)
 args := fun x => [AV.any, AV.any, AV.any, (AV.ptr 0 0), AV.any, (AV.ptr 1 0), AV.any, AV.any, AV.any, AV.any, AV.any, AV.any, AV.any, AV.any, AV.any, AV.any, AV.any, AV.any, AV.any, AV.any, AV.any, AV.any, AV.any, (AV.v (.int .i64 x.1)), (AV.agg (zM x.2.1)), AV.any, AV.any, AV.any, AV.any, AV.any, AV.any, AV.any, AV.any, AV.any, AV.any, AV.any, AV.any, AV.any, AV.any, AV.any, AV.any]
 bs := fun x => [[(AV.v (.int .i64 x.2.2.1))], [(AV.list 25 x.2.2.2 (some 6400262144))]]
 ret := fun y => ⟨.v (.bool y.1), [[(AV.v (.int .i64 y.2.1))], [(AV.list 25 y.2.2 (some 6400262144))]], none, [6400262144], [6400262144], [], none⟩
 t := fun x α k => (match (decide (x.2.1.2.1 <= x.2.2.1)) with | true => (if 0 <= x.2.1.1 /\ x.2.1.1 < 7 then (match ((gtab0.map AV.v).drop (x.2.1.1.toNat * 1))[0]? with | some x1 => (match x1 with | .v (.bool b2) => (match b2 with | true => (match zd5 N (zy x.2.1) with | some y3 => (if (x.2.2.2.length + [(zB y3)].length) * 248 <= zh then (k (false, x.2.2.1, (x.2.2.2 ++ [(zB y3)]))) else none) | none => none) | false => (k (false, x.2.2))) | _ => none) | none => none) else none) | false => (k (true, x.2.2)))
abbrev zoe (N : Nat) (x : Int × RT7 × Int × qL) : Option (Bool × Int × qL) := (ZT N).d x
def zbn : Code := zBm (zc 17 (Tryd.f43.body.getD .skip))
def zbm : Code := zyk (zc 17 (Tryd.f43.body.getD .skip))
theorem zgh (N : Nat) : Zd (ZT N).t := by
 intro x α β k k' r r' h h1
 revert h
 dsimp only [ZT]
 (repeat' (first | (with_reducible refine ze ?_ ?_) | split)) <;> intro h <;> first | exact h1 _ h | cases h
theorem zgU (N : Nat) (x : (ZT N).X) : ziL (zn qP) (zlL N) zeU (lam N []) zbn zbm 9000 9100 2 (ZT N).S ((ZT N).args x) ((ZT N).bs x) = (ZT N).t x Ret (fun y => some ((ZT N).ret y)) := by kernel_rfl
def zhm (N : Nat) : REnt qP zbn zbm 2 := zBA (zd qP) (zi _) zl zeU (lam N []) zbn zbm 9000 9100 2 (by kernel_rfl) (by kernel_rfl) (ZT N) (fun _ => ⟨rfl, rfl⟩) (zgU N) (fun _ _ _ h => zu h (fun _ _ => rfl) (fun _ _ => rfl)) (zgh N)
def JI : Nat -> Keep × Keep := anL [(9, ⟨[3, 5, 15, 16], [], [3, 5], [(14, 1)], [((5, 0), 25)], [], [], [], false, none, []⟩, ⟨[5], [], [5], [], [((5, 0), 25)], [], [], [], false, none, []⟩), (17, ⟨[3, 5, 15, 16, 22], [], [3, 5, 22], [(14, 1)], [((5, 0), 25)], [], [], [], true, none, []⟩, ⟨[3, 5, 15, 16], [], [3, 5], [(14, 1)], [((5, 0), 25)], [], [], [], false, none, []⟩)]
def zzH (N : Nat) : GamK := gam (P := qP) [zxZ N, zDo N]
def ZM (N : Nat) : LSpec where
 X := qL × Int × Int × Int × qL × qL × Nat
 Y := (qL × Int × Int × Int × qL)
 p := fun s => rdS 41 0 [(14, .lst 1), (3, .ptr 3 0), (5, .ptr 5 0), (15, .int .i64), (16, .int .i64), (22, .fn1 91 22)] [(3, .cells [.int .i64]), (5, .cells [.tok 25 6401310720]), (22, .cells [.lst 29])] s fun ⟨a0, _, _, a1, a2, _, _⟩ ⟨⟨a3, _⟩, ⟨a4, _⟩, ⟨a5, _⟩, _⟩ => (a0, a1, a2, a3, a4, a5, a5.length)
 st := fun u17 => mkS 41 [(14, (AV.list 1 u17.1 none)), (3, (AV.ptr 3 0)), (5, (AV.ptr 5 0)), (15, (qI u17.2.1)), (16, (qI u17.2.2.1)), (22, (AV.fn (.func 91) [] [(AV.ptr 22 0)]))] [(3, [(qI u17.2.2.2.1)]), (5, [(AV.list 25 u17.2.2.2.2.1 (some 6401310720))]), (22, [(AV.list 29 u17.2.2.2.2.2.1 none)])] (JI 17).1.toks 0
 out := fun y => (.normal, mkS 41 [(14, (AV.list 1 y.1 none)), (3, (AV.ptr 3 0)), (5, (AV.ptr 5 0)), (15, (qI y.2.1)), (16, (qI y.2.2.1))] [(3, [(qI y.2.2.2.1)]), (5, [(AV.list 25 y.2.2.2.2 (some 6401310720))])] (JI 17).2.toks 0)
 b := fun u17 α kn ke => (if u17.2.2.2.2.2.1.length <= 1000000 then (match u17.2.2.2.2.2.2 with | 0 => (ke (u17.1, u17.2.1, u17.2.2.1, u17.2.2.2.1, u17.2.2.2.2.1)) | m17 + 1 => (match u17.2.2.2.2.2.1[m17]? with | some r17 => (match zre RK7 r17 with | some e17 => (match zoe N ((m17 : Int), e17, u17.2.2.2.1, u17.2.2.2.2.1) with | some y5 => (match y5.1 with | true => (kn (u17.1, u17.2.1, u17.2.2.1, y5.2.1, y5.2.2, u17.2.2.2.2.2.1, m17)) | false => (ke (u17.1, u17.2.1, u17.2.2.1, y5.2))) | none => none) | none => none) | none => none)) else none)
abbrev zxm (N : Nat) (x : qL × Int × Int × Int × qL × qL × Nat) : Option ((qL × Int × Int × Int × qL)) := (ZM N).L N x
def zcK (N : Nat) : LSpec where
 X := qL × Int × Int × Int × qL
 Y := (qL)
 p := fun s => rdS 41 0 [(14, .lst 1), (3, .ptr 3 0), (5, .ptr 5 0), (15, .int .i64), (16, .int .i64)] [(3, .cells [.int .i64]), (5, .cells [.tok 25 6401310720])] s fun ⟨a0, _, _, a1, a2, _⟩ ⟨⟨a3, _⟩, ⟨a4, _⟩, _⟩ => (a0, a1, a2, a3, a4)
 st := fun u9 => mkS 41 [(14, (AV.list 1 u9.1 none)), (3, (AV.ptr 3 0)), (5, (AV.ptr 5 0)), (15, (qI u9.2.1)), (16, (qI u9.2.2.1))] [(3, [(qI u9.2.2.2.1)]), (5, [(AV.list 25 u9.2.2.2.2 (some 6401310720))])] (JI 9).1.toks 0
 out := fun y => (.exit 0, mkS 41 [(5, (AV.ptr 5 0))] [(5, [(AV.list 25 y (some 6401310720))])] (JI 9).2.toks 0)
 b := fun u9 α kn ke => (match (decide (u9.2.2.1 < u9.2.1)) with | true => (if 0 <= u9.2.2.1 then (match u9.1[u9.2.2.1.toNat]? with | some c7 => (match zf1 c7 with | some e8 => (match zDD N e8.1 with | some y9 => (match zxm N (u9.1, u9.2.1, u9.2.2.1, u9.2.2.2.1, u9.2.2.2.2, y9, y9.length) with | some y10 => (kn (y10.1, y10.2.1, (i64 (y10.2.2.1 + 1)), y10.2.2.2)) | none => none) | none => none) | none => none) | none => none) else none) | false => (ke u9.2.2.2.2))
abbrev zBK (N : Nat) (x : qL × Int × Int × Int × qL) : Option ((qL)) := (zcK N).L N x
def zfX (N : Nat) : FSpec where
 X := qL × Int
 Y := qL
 ash := [[some 1], [none]]
 S := ⟨[[some 2000025]], [], [], [], []⟩
 pat := fun a b => zk a fun v1 c2 => ji v1 fun c3 => zk c3 fun c4 c5 => jb 1 c4 fun a0 => zQ c5 <| zk c2 fun v6 c7 => Jk .i64 v6 fun a1 => zQ c7 <| zQ b <| some (a0, a1)
 args := fun x => [(AV.agg [(AV.list 1 x.1 none)]), (AV.v (.int .i64 x.2))]
 ret := fun y => ⟨(AV.list 25 y (some 2560000000)), [], none, [], [2560000000], [], none⟩
 t := fun x α k => (match zmE N x.1 with | some y1 => (match (!y1) with | true => (k ([] : qL)) | false => (match zBK N (x.1, (x.1.length : Int), 0, x.2, ([] : qL)) with | some y11 => (k y11) | none => none)) | none => none)
abbrev zxS (N : Nat) (x : qL × Int) : Option (qL) := (zfX N).d x
def zc7 (N : Nat) : List (Nat × LSpec) := [(9, zcK N), (17, ZM N)]
def zgA : Code := Tryd.f43.body.getD .skip
theorem znl (N : Nat) : Par (ZM N).b := by
 intro x α β kn ke kn' ke' r r' h h1 h2
 revert h
 dsimp only [ZM]
 (repeat' (first | (with_reducible refine ze ?_ ?_) | split)) <;> intro h <;> first | exact h1 _ h | exact h2 _ h | cases h
theorem zkI (N : Nat) (u17 : (ZM N).X) (α : Type) (kn : Nat -> AS -> Option α) (ke : Out -> Option α) : J9 (zhm N).F JI 17 fBk RK7 22 23 24 [3, 5] u17.2.2.2.2.2.2 ((ZM N).st u17) kn ke = (ZM N).b u17 α (fun x => kn x.2.2.2.2.2.2 ((ZM N).st x)) (fun y => (ZM N).sp y α ke) := by kernel_rfl
theorem zsN (N : Nat) (u17 : (ZM N).X) : ((ZM N).st u17).at 22 = .fn (.func fBk) [] [.ptr 22 0] := by kernel_rfl
theorem zsa (N : Nat) (u17 : (ZM N).X) : ((ZM N).st u17).cx 22 = some [.list 29 u17.2.2.2.2.2.1 none] := by kernel_rfl
theorem zeL (N : Nat) : ZE qP JI N (zc7 N) 17 (zc 17 zgA) :=
 zxe JI N (zc7 N) 17 zgA (by kernel_rfl) (by decide) (zhm N) (ZM N) (fun x => x.2.2.2.2.2.2) rfl (fun s x hc h => by dsimp only [ZM] at h; exact zI hc h (fun _ _ => rfl) rfl rfl rfl) 22 (fun u17 => u17.2.2.2.2.2.1) (zsN N) (zsa N) (fun s x h => by dsimp only [ZM] at h; obtain ⟨a, b, rfl⟩ := zBb h; rfl) (fun x b h => zoQ rfl h) (fun y b h => zoQ rfl h) (zkI N) (znl N)
theorem zsj (N : Nat) : Par (zcK N).b := by
 intro x α β kn ke kn' ke' r r' h h1 h2
 revert h
 dsimp only [zcK]
 (repeat' (first | (with_reducible refine ze ?_ ?_) | split)) <;> intro h <;> first | exact h1 _ h | exact h2 _ h | cases h
theorem zmm (N : Nat) : jc (zn qP) (zzH N) JI N (zc7 N) 9 zgA (zcK N) := fun x α kn ke => by kernel_rfl
theorem zpw (N : Nat) : ZE qP JI N (zc7 N) 9 (zc 9 zgA) :=
 zD (zd qP) (zi _) zl JI N (zc7 N) 9 zgA (l := [(17, zc 17 zgA)]) (by kernel_rfl) (by kernel_rfl) (al (zeL N) an) (zcK N) rfl (fun s x hc h => by dsimp only [zcK] at h; exact zI hc h (fun _ _ => rfl) rfl rfl rfl) (fun _ => rfl) (zmm N) (zsj N)
theorem zt3 (N : Nat) : Zd (zfX N).t := by
 intro x α β k k' r r' h h1
 revert h
 dsimp only [zfX]
 (repeat' (first | (with_reducible refine ze ?_ ?_) | split)) <;> intro h <;> first | exact h1 _ h | cases h
theorem zqJ (N : Nat) : Zf (zn qP) (zzH N) JI (lam N (zc7 N)) Tryd.f43 (zfX N) := fun x => by kernel_rfl
theorem zyp (N : Nat) (a : List AV) (b : qL) (x : (zfX N).X) (h : (zfX N).pat a b = some x) : a = (zfX N).args x /\ b = (zfX N).bs x := by
 obtain ⟨v1, c2, rfl, g0⟩ := zb (show zk _ _ = some x from h)
 obtain ⟨c3, rfl, g1⟩ := zS g0; clear g0
 obtain ⟨c4, c5, rfl, g2⟩ := zb g1; clear g1
 obtain ⟨a0, rfl, g3⟩ := zq g2; clear g2
 obtain ⟨rfl, g4⟩ := zg g3; clear g3
 obtain ⟨v6, c7, rfl, g5⟩ := zb g4; clear g4
 obtain ⟨a1, rfl, g6⟩ := zG g5; clear g5
 obtain ⟨rfl, g7⟩ := zg g6; clear g6
 obtain ⟨rfl, g8⟩ := zg g7; clear g7
 clear h
 cases g8
 exact ⟨rfl, rfl⟩
def zDW (N : Nat) : Ent qP := zx (zd qP) (zi _) zl 43 Tryd.f43 Tryd.func43 rfl JI (lam N (zc7 N)) (zm (l := [(9, zc 9 zgA), (17, zc 17 zgA)]) (al (zpw N) (al (zeL N) an)) (by kernel_rfl)) (zfX N) (fun _ => ⟨rfl, rfl⟩) (zqJ N) (zyp N) (zt3 N)
end
end Go.Proofs.YthdgnfcbehcplaaDoor
end
section
namespace Go.Proofs.YthdgnfcbehcplaaDoor
noncomputable section
open Go.RowKit
set_option maxRecDepth 4000
set_option maxHeartbeats 4000000
def zz1 (N : Nat) : FSpec where
 X := qL × Int
 Y := Int × qL × Int
 ash := [[none]]
 bsh := [[some 2000001, none]]
 S := ⟨[[none]], [[some 2000001, none]], [], [6400000000], []⟩
 pat := fun a b => rdA [.ptr 0 0] [.cells [.tok 1 6400000000, .int .i64]] a b fun ⟨_, _⟩ ⟨⟨a0, a1, _⟩, _⟩ => (a0, a1)
 args := fun x => [(AV.ptr 0 0)]
 bs := fun x => [[(AV.list 1 x.1 (some 6400000000)), (AV.v (.int .i64 x.2))]]
 ret := fun y => ⟨(AV.v (.int .i64 y.1)), [[(AV.list 1 y.2.1 (some 6400000000)), (AV.v (.int .i64 y.2.2))]], none, [6400000000], [6400000000], [], none⟩
 t := fun x α k => (match (decide (x.2 >= (x.1.length : Int))) with | true => (k (0, x)) | false => (if 0 <= (i64 ((i64 (x.2 + 1)) - 1)) then (match x.1[(i64 ((i64 (x.2 + 1)) - 1)).toNat]? with | some c1 => (match c1[0]? with | some x2 => (match x2 with | .v (.int q4 n3) => (if q4 = .i64 then (k (n3, x.1, (i64 (x.2 + 1)))) else none) | _ => none) | none => none) | none => none) else none))
abbrev zx3 (N : Nat) (x : qL × Int) : Option (Int × qL × Int) := (zz1 N).d x
def zwi : Nat -> Keep × Keep := anL []
def zDT (N : Nat) : GamK := gam (P := qP) []
def zli (N : Nat) : FSpec where
 X := Int × Int
 Y := Int
 ash := [[none], [none]]
 S := ⟨[[none]], [], [], [], []⟩
 pat := fun a b => rdA [.int .i64, .int .i64] [] a b fun ⟨a0, a1, _⟩ _ => (a0, a1)
 args := fun x => [(AV.v (.int .i64 x.1)), (AV.v (.int .i64 x.2))]
 ret := fun y => ⟨(AV.v (.int .i64 y)), [], none, [], [], [], none⟩
 t := fun x α k => (match (decide (x.2 < 1)) with | true => (k 0) | false => (if x.2 = 0 then none else (match (decide ((x.1.tmod x.2) < 0)) with | true => (k (i64 ((x.1.tmod x.2) + x.2))) | false => (k (x.1.tmod x.2)))))
abbrev znd (N : Nat) (x : Int × Int) : Option (Int) := (zli N).d x
theorem zrw (N : Nat) : Zd (zli N).t := by
 intro x α β k k' r r' h h1
 revert h
 dsimp only [zli]
 (repeat' (first | (with_reducible refine ze ?_ ?_) | split)) <;> intro h <;> first | exact h1 _ h | cases h
theorem zrQ (N : Nat) : Zf (zn qP) (zDT N) zwi (lam N []) Tryd.f21 (zli N) := fun x => by kernel_rfl
def zAz (N : Nat) : Ent qP := zx (zd qP) (zi _) zl 21 Tryd.f21 Tryd.func21 rfl zwi (lam N []) (zm (l := []) an (by kernel_rfl)) (zli N) (fun _ => ⟨rfl, rfl⟩) (zrQ N) (fun _ _ _ h => zu h (fun _ _ => rfl) (fun _ _ => rfl)) (zrw N)
def zEa (N : Nat) : FSpec where
 X := Int × qL × Int
 Y := Int × qL × Int
 ash := [[none], [none]]
 bsh := [[some 2000001, none]]
 S := ⟨[[none]], [[some 2000001, none]], [], [6400000000], []⟩
 pat := fun a b => rdA [.ptr 0 0, .int .i64] [.cells [.tok 1 6400000000, .int .i64]] a b fun ⟨_, a0, _⟩ ⟨⟨a1, a2, _⟩, _⟩ => (a0, a1, a2)
 args := fun x => [(AV.ptr 0 0), (AV.v (.int .i64 x.1))]
 bs := fun x => [[(AV.list 1 x.2.1 (some 6400000000)), (AV.v (.int .i64 x.2.2))]]
 ret := fun y => ⟨(AV.v (.int .i64 y.1)), [[(AV.list 1 y.2.1 (some 6400000000)), (AV.v (.int .i64 y.2.2))]], none, [6400000000], [6400000000], [], none⟩
 t := fun x α k => (match zx3 N x.2 with | some y1 => (match znd N (y1.1, x.1) with | some y2 => (k (y2, y1.2)) | none => none) | none => none)
abbrev zcD (N : Nat) (x : Int × qL × Int) : Option (Int × qL × Int) := (zEa N).d x
abbrev RK8 : List Ck := [.str, .str, .str, .str, .int .i64, .int .i64, .int .i64, .int .i64, .int .i64, .tk 9 6401049152, .int .i64, .int .i64, .int .i64, .int .i64, .int .i64, .int .i64, .int .i64, .int .i64, .int .i64, .int .i64, .int .i64, .int .i64, .int .i64, .int .i64, .int .i64]
abbrev RT8 : Type := ByteArray × ByteArray × ByteArray × ByteArray × Int × Int × Int × Int × Int × qL × Int × Int × Int × Int × Int × Int × Int × Int × Int × Int × Int × Int × Int × Int × Int × Unit
def zBT (e : RT8) : List AV := enc RK8 e
def zvS : Nat -> Keep × Keep := anL []
def zDB (N : Nat) : GamK := gam (P := qP) [zAz N]
def zoF (N : Nat) : FSpec where
 X := Int
 Y := RT2
 ash := [[none]]
 S := ⟨[[none, none, none, none]], [], [], [], []⟩
 pat := fun a b => rdA [.int .i64] [] a b fun ⟨a0, _⟩ _ => a0
 args := fun x => [(AV.v (.int .i64 x))]
 ret := fun y => ⟨(AV.agg (zAC y)), [], none, [], [], [], none⟩
 t := fun x α k => (match znd N (x, 6) with | some y1 => (if 0 <= y1 then (match [[(AV.v (.string (⟨#[83, 49]⟩ : ByteArray)))], [(AV.v (.string (⟨#[83, 50]⟩ : ByteArray)))], [(AV.v (.string (⟨#[83, 51]⟩ : ByteArray)))], [(AV.v (.string (⟨#[83, 52]⟩ : ByteArray)))], [(AV.v (.string (⟨#[83, 53]⟩ : ByteArray)))], [(AV.v (.string (⟨#[83, 54]⟩ : ByteArray)))]][y1.toNat]? with | some c2 => (match c2[0]? with | some x3 => (match x3 with | .v (.string s4) => (k ((⟨#[65, 66]⟩ : ByteArray), s4, (⟨#[48, 48]⟩ : ByteArray), (⟨#[66, 72, 90]⟩ : ByteArray), ())) | _ => none) | none => none) | none => none) else none) | none => none)
abbrev ztC (N : Nat) (x : Int) : Option (RT2) := (zoF N).d x
theorem zrm (N : Nat) : Zd (zoF N).t := by
 intro x α β k k' r r' h h1
 revert h
 dsimp only [zoF]
 (repeat' (first | (with_reducible refine ze ?_ ?_) | split)) <;> intro h <;> first | exact h1 _ h | cases h
theorem ztN (N : Nat) : Zf (zn qP) (zDB N) zvS (lam N []) Tryd.f50 (zoF N) := fun x => by kernel_rfl
def zzq (N : Nat) : Ent qP := zx (zd qP) (zi _) zl 50 Tryd.f50 Tryd.func50 rfl zvS (lam N []) (zm (l := []) an (by kernel_rfl)) (zoF N) (fun _ => ⟨rfl, rfl⟩) (ztN N) (fun _ _ _ h => zu h (fun _ _ => rfl) (fun _ _ => rfl)) (zrm N)
def zzm (N : Nat) : FSpec where
 X := Int × qL × Int
 Y := Int × Int × Int × qL × Int
 ash := [[none], [none]]
 bsh := [[some 2000001, none]]
 S := ⟨[[none, none, none]], [[some 2000001, none]], [], [6400000000], []⟩
 pat := fun a b => rdA [.ptr 0 0, .int .i64] [.cells [.tok 1 6400000000, .int .i64]] a b fun ⟨_, a0, _⟩ ⟨⟨a1, a2, _⟩, _⟩ => (a0, a1, a2)
 args := fun x => [(AV.ptr 0 0), (AV.v (.int .i64 x.1))]
 bs := fun x => [[(AV.list 1 x.2.1 (some 6400000000)), (AV.v (.int .i64 x.2.2))]]
 ret := fun y => ⟨(AV.agg [(AV.v (.int .i64 y.1)), (AV.v (.int .i64 y.2.1)), (AV.v (.int .i64 y.2.2.1))]), [[(AV.list 1 y.2.2.2.1 (some 6400000000)), (AV.v (.int .i64 y.2.2.2.2))]], none, [6400000000], [6400000000], [], none⟩
 t := fun x α k => (match zcD N ((i64 ((i64 (2 * x.1)) + 1)), x.2) with | some y1 => (match zcD N ((i64 ((i64 (2 * x.1)) + 1)), y1.2) with | some y2 => (match zcD N ((i64 (x.1 + 1)), y2.2) with | some y3 => (k ((i64 (y1.1 - x.1)), (i64 (y2.1 - x.1)), y3)) | none => none) | none => none) | none => none)
abbrev zyW (N : Nat) (x : Int × qL × Int) : Option (Int × Int × Int × qL × Int) := (zzm N).d x
def zBJ (N : Nat) : FSpec where
 X := qL × qL × Int
 Y := Int × qL × Int
 ash := [[none], [some 1]]
 bsh := [[some 2000001, none]]
 S := ⟨[[none]], [[some 2000001, none]], [], [6400000000], []⟩
 pat := fun a b => rdA [.ptr 0 0, .lst 1] [.cells [.tok 1 6400000000, .int .i64]] a b fun ⟨_, a0, _⟩ ⟨⟨a1, a2, _⟩, _⟩ => (a0, a1, a2)
 args := fun x => [(AV.ptr 0 0), (AV.list 1 x.1 none)]
 bs := fun x => [[(AV.list 1 x.2.1 (some 6400000000)), (AV.v (.int .i64 x.2.2))]]
 ret := fun y => ⟨(AV.v (.int .i64 y.1)), [[(AV.list 1 y.2.1 (some 6400000000)), (AV.v (.int .i64 y.2.2))]], none, [6400000000], [6400000000], [], none⟩
 t := fun x α k => (match zcD N ((x.1.length : Int), x.2) with | some y1 => (if 0 <= y1.1 then (match x.1[y1.1.toNat]? with | some c2 => (match c2[0]? with | some x3 => (match x3 with | .v (.int q5 n4) => (if q5 = .i64 then (k (n4, y1.2)) else none) | _ => none) | none => none) | none => none) else none) | none => none)
abbrev zuF (N : Nat) (x : qL × qL × Int) : Option (Int × qL × Int) := (zBJ N).d x
abbrev zCy : List Ck := [.str, .str, .str, .str, .int .i64, .int .i64, .int .i64, .int .i64, .int .i64, .vs 2020489 9, .int .i64, .int .i64, .int .i64, .int .i64, .int .i64, .int .i64, .int .i64, .int .i64, .int .i64, .int .i64, .int .i64, .int .i64, .int .i64, .int .i64, .int .i64]
abbrev zp2 : Type := ByteArray × ByteArray × ByteArray × ByteArray × Int × Int × Int × Int × Int × Nat × Int × Int × Int × Int × Int × Int × Int × Int × Int × Int × Int × Int × Int × Int × Int × Unit
def zqu (e : zp2) : List AV := enc zCy e
abbrev RK11 : List Ck := [.str, .str, .str, .str, .int .i64, .int .i64, .int .i64, .int .i64, .int .i64, .vs 1 9, .int .i64, .int .i64, .int .i64, .int .i64, .int .i64, .int .i64, .int .i64, .int .i64, .int .i64, .int .i64, .int .i64, .int .i64, .int .i64, .int .i64, .int .i64]
abbrev zxi : Type := ByteArray × ByteArray × ByteArray × ByteArray × Int × Int × Int × Int × Int × Nat × Int × Int × Int × Int × Int × Int × Int × Int × Int × Int × Int × Int × Int × Int × Int × Unit
def zBz (e : zxi) : List AV := enc RK11 e
def zlO : Nat -> Keep × Keep := anL [(6, ⟨[0, 1, 4, 5, 6, 7], [], [0, 4, 5], [], [((0, 0), 1), ((4, 9), 9)], [], [((5, 9), 9)], [], false, none, []⟩, ⟨[0, 4, 5, 6], [], [0, 4, 5], [], [((0, 0), 1), ((4, 9), 9)], [], [((5, 9), 9)], [], false, none, []⟩)]
def je (N : Nat) : LSpec where
 X := Int × Int × Int × qL × Int × RT8 × zp2 × qA
 Y := (Int × qL × Int × RT8 × zp2 × qA)
 p := fun s => rdS 98 1 [(0, .ptr 0 0), (1, .int .i64), (4, .ptr 4 0), (5, .ptr 5 0), (6, .int .i64), (7, .int .i64)] [(0, .cells [.tok 1 6400000000, .int .i64]), (4, .row RK8), (5, .row zCy), (2020489, .tt)] s fun ⟨_, a0, _, _, a1, a2, _⟩ ⟨⟨a3, a4, _⟩, a5, a6, a7, _⟩ => (a0, a1, a2, a3, a4, a5, a6, a7)
 st := fun u6 => mkS 98 [(0, (AV.ptr 0 0)), (1, (qI u6.1)), (4, (AV.ptr 4 0)), (5, (AV.ptr 5 0)), (6, (qI u6.2.1)), (7, (qI u6.2.2.1))] [(0, [(AV.list 1 u6.2.2.2.1 (some 6400000000)), (qI u6.2.2.2.2.1)]), (4, (zBT u6.2.2.2.2.2.1)), (5, (zqu u6.2.2.2.2.2.2.1)), (2020489, u6.2.2.2.2.2.2.2)] (zlO 6).1.toks 1
 out := fun y => (.exit 0, mkS 98 [(0, (AV.ptr 0 0)), (4, (AV.ptr 4 0)), (5, (AV.ptr 5 0)), (6, (qI y.1))] [(0, [(AV.list 1 y.2.1 (some 6400000000)), (qI y.2.2.1)]), (4, (zBT y.2.2.2.1)), (5, (zqu y.2.2.2.2.1)), (2020489, y.2.2.2.2.2)] (zlO 6).2.toks 1)
 b := fun u6 α kn ke => (match zcD N (4, u6.2.2.2.1, u6.2.2.2.2.1) with | some y5 => (match (decide (u6.2.2.1 < (i64 (1 + y5.1)))) with | true => (match ztC N u6.2.2.1 with | some y6 => (match zcD N (3, y5.2) with | some y7 => (if u6.2.2.2.2.2.2.1.2.2.2.2.2.2.2.2.2.1 * 9 <= u6.2.2.2.2.2.2.2.length /\ (u6.2.2.2.2.2.2.1.2.2.2.2.2.2.2.2.2.1 + [(zw (y6.1, y6.2.1, y6.2.2.1, y6.2.2.2.1, (i64 (u6.2.1 + (i64 (10 * u6.1)))), (i64 (u6.2.1 + (i64 (10 * u6.1)))), (i64 ((i64 (u6.2.1 + (i64 (10 * u6.1)))) + y7.1)), u6.1, 0, ()))].length) * 104 <= zh then (kn (u6.1, u6.2.1, (i64 (u6.2.2.1 + 1)), y7.2.1, y7.2.2, u6.2.2.2.2.2.1, (u6.2.2.2.2.2.2.1.1, u6.2.2.2.2.2.2.1.2.1, u6.2.2.2.2.2.2.1.2.2.1, u6.2.2.2.2.2.2.1.2.2.2.1, u6.2.2.2.2.2.2.1.2.2.2.2.1, u6.2.2.2.2.2.2.1.2.2.2.2.2.1, u6.2.2.2.2.2.2.1.2.2.2.2.2.2.1, u6.2.2.2.2.2.2.1.2.2.2.2.2.2.2.1, u6.2.2.2.2.2.2.1.2.2.2.2.2.2.2.2.1, (u6.2.2.2.2.2.2.1.2.2.2.2.2.2.2.2.2.1 + [(zw (y6.1, y6.2.1, y6.2.2.1, y6.2.2.2.1, (i64 (u6.2.1 + (i64 (10 * u6.1)))), (i64 (u6.2.1 + (i64 (10 * u6.1)))), (i64 ((i64 (u6.2.1 + (i64 (10 * u6.1)))) + y7.1)), u6.1, 0, ()))].length), u6.2.2.2.2.2.2.1.2.2.2.2.2.2.2.2.2.2), ((u6.2.2.2.2.2.2.2.take (u6.2.2.2.2.2.2.1.2.2.2.2.2.2.2.2.2.1 * 9) ++ [(zw (y6.1, y6.2.1, y6.2.2.1, y6.2.2.2.1, (i64 (u6.2.1 + (i64 (10 * u6.1)))), (i64 (u6.2.1 + (i64 (10 * u6.1)))), (i64 ((i64 (u6.2.1 + (i64 (10 * u6.1)))) + y7.1)), u6.1, 0, ()))].flatten).map dat0))) else none) | none => none) | none => none) | false => (ke (u6.2.1, y5.2.1, y5.2.2, u6.2.2.2.2.2.1, u6.2.2.2.2.2.2.1, (u6.2.2.2.2.2.2.2.map dat0)))) | none => none)
abbrev zn9 (N : Nat) (x : Int × Int × Int × qL × Int × RT8 × zp2 × qA) : Option ((Int × qL × Int × RT8 × zp2 × qA)) := (je N).L N x
def zwg (N : Nat) : FSpec where
 X := Int × qL × Int
 Y := zxi × qL × Int × qA
 ash := [[none], [none]]
 bsh := [[some 2000001, none]]
 S := ⟨[[none, none, none, none, none, none, none, none, none, some 9, none, none, none, none, none, none, none, none, none, none, none, none, none, none, none]], [[some 2000001, none]], [], [6400000000], []⟩
 bm := true
 pat := fun a b => rdA [.ptr 0 0, .int .i64] [.cells [.tok 1 6400000000, .int .i64]] a b fun ⟨_, a0, _⟩ ⟨⟨a1, a2, _⟩, _⟩ => (a0, a1, a2)
 args := fun x => [(AV.ptr 0 0), (AV.v (.int .i64 x.1))]
 bs := fun x => [[(AV.list 1 x.2.1 (some 6400000000)), (AV.v (.int .i64 x.2.2))]]
 ret := fun y => ⟨(AV.agg (zBz y.1)), [[(AV.list 1 y.2.1 (some 6400000000)), (AV.v (.int .i64 y.2.2.1))]], some y.2.2.2, [6400000000], [6400000000], [], none⟩
 t := fun x α k => (match zcD N (300, x.2) with | some y1 => (match zn9 N (x.1, (i64 (1000 + y1.1)), 0, y1.2.1, y1.2.2, ((⟨#[]⟩ : ByteArray), (⟨#[]⟩ : ByteArray), (⟨#[]⟩ : ByteArray), (⟨#[]⟩ : ByteArray), 0, 0, 0, 0, 0, ([] : qL), 0, 0, 0, 0, 0, 0, 0, 0, 0, 0, 0, 0, 0, 0, 0, ()), ((⟨#[]⟩ : ByteArray), (⟨#[]⟩ : ByteArray), (⟨#[]⟩ : ByteArray), (⟨#[]⟩ : ByteArray), 0, 0, 0, 0, 0, 0, 0, 0, 0, 0, 0, 0, 0, 0, 0, 0, 0, 0, 0, 0, 0, ()), ([] : List AV)) with | some y8 => (if 0 <= (0 : Int) /\ (0 : Int) < (y8.2.2.2.2.1.2.2.2.2.2.2.2.2.2.1 : Int) then (match Jt (y8.2.2.2.2.2.drop ((0 + (0 : Int).toNat) * 9)) with | some e9 => (match zyW N (20, y8.2.1, y8.2.2.1) with | some y10 => (match zcD N (40, y10.2.2.2) with | some y11 => (match zuF N ([[(AV.v (.int .i64 0))], [(AV.v (.int .i64 0))], [(AV.v (.int .i64 5))], [(AV.v (.int .i64 500))]], y11.2) with | some y12 => (match zcD N (3, y12.2) with | some y13 => (match (decide (y13.1 > 0)) with | true => (match zcD N (400, y13.2) with | some y14 => (match zcD N (60, y14.2) with | some y15 => (k ((e9.1, e9.2.1, e9.2.2.1, e9.2.2.2.1, e9.2.2.2.2.1, e9.2.2.2.2.2.1, e9.2.2.2.2.2.2.1, e9.2.2.2.2.2.2.2.1, e9.2.2.2.2.2.2.2.2.1, y8.2.2.2.2.1.2.2.2.2.2.2.2.2.2.1, y10.1, y10.2.1, y10.2.2.1, (i64 (y8.1 - y11.1)), y12.1, 0, y10.1, y10.2.1, y10.2.2.1, y10.1, y10.2.1, y10.2.2.1, y14.1, (i64 (y14.1 + y15.1)), y13.1, ()), y15.2.1, y15.2.2, (y8.2.2.2.2.2.map dat0))) | none => none) | none => none) | false => (k ((e9.1, e9.2.1, e9.2.2.1, e9.2.2.2.1, e9.2.2.2.2.1, e9.2.2.2.2.2.1, e9.2.2.2.2.2.2.1, e9.2.2.2.2.2.2.2.1, e9.2.2.2.2.2.2.2.2.1, y8.2.2.2.2.1.2.2.2.2.2.2.2.2.2.1, y10.1, y10.2.1, y10.2.2.1, (i64 (y8.1 - y11.1)), y12.1, 0, y10.1, y10.2.1, y10.2.2.1, y10.1, y10.2.1, y10.2.2.1, y8.2.2.2.2.1.2.2.2.2.2.2.2.2.2.2.2.2.2.2.2.2.2.2.2.2.2.2.1, y8.2.2.2.2.1.2.2.2.2.2.2.2.2.2.2.2.2.2.2.2.2.2.2.2.2.2.2.2.1, y13.1, ()), y13.2.1, y13.2.2, (y8.2.2.2.2.2.map dat0)))) | none => none) | none => none) | none => none) | none => none) | none => none) else none) | none => none) | none => none)
abbrev znc (N : Nat) (x : Int × qL × Int) : Option (zxi × qL × Int × qA) := (zwg N).d x
abbrev zDn : List Ck := [.str, .str, .str, .str, .int .i64, .int .i64, .int .i64, .int .i64, .int .i64, .vs 19 9, .int .i64, .int .i64, .int .i64, .int .i64, .int .i64, .int .i64, .int .i64, .int .i64, .int .i64, .int .i64, .int .i64, .int .i64, .int .i64, .int .i64, .int .i64]
abbrev zqq : Type := ByteArray × ByteArray × ByteArray × ByteArray × Int × Int × Int × Int × Int × Nat × Int × Int × Int × Int × Int × Int × Int × Int × Int × Int × Int × Int × Int × Int × Int × Unit
def zq8 (e : zqq) : List AV := enc zDn e
def zsJ : Nat -> Keep × Keep := anF [(5, ⟨[0, 1, 6], [], [0], [], [((0, 0), 1)], [(5, 25)], [], [], false, none, []⟩, ⟨[], [], [0], [], [((0, 0), 1)], [(5, 25)], [], [], false, none, []⟩), (18, ⟨[0, 1, 5, 6, 7, 23, 24], [], [0, 7, 19, 1000005], [], [((0, 0), 1)], [], [], [19, 1000005], false, none, []⟩, ⟨[0, 1, 5, 6, 7], [], [0, 7, 19, 1000005], [], [((0, 0), 1)], [], [], [19, 1000005], false, none, []⟩)] [(100015, ([], [((7, 9), 9)])), (100016, ([5], []))]
def zap (N : Nat) : LSpec where
 X := Int × Nat × Int × Int × Int × qL × Int × zqq × qA × qA
 Y := (Int × Nat × Int × qL × Int × zqq × qA × qA)
 p := fun s => rdS 86 1 [(0, .ptr 0 0), (1, .int .i64), (5, .vs0 1000005 25), (6, .int .i64), (7, .ptr 7 0), (23, .int .i64), (24, .int .i64)] [(0, .cells [.tok 1 6400000000, .int .i64]), (7, .row zDn), (19, .tt), (1000005, .tt)] s fun ⟨_, a0, a1, a2, _, a3, a4, _⟩ ⟨⟨a5, a6, _⟩, a7, a8, a9, _⟩ => (a0, a1, a2, a3, a4, a5, a6, a7, a8, a9)
 st := fun u18 => mkS 86 [(0, (AV.ptr 0 0)), (1, (qI u18.1)), (5, (AV.vs 1000005 0 u18.2.1 25)), (6, (qI u18.2.2.1)), (7, (AV.ptr 7 0)), (23, (qI u18.2.2.2.1)), (24, (qI u18.2.2.2.2.1))] [(0, [(AV.list 1 u18.2.2.2.2.2.1 (some 6400000000)), (qI u18.2.2.2.2.2.2.1)]), (7, (zq8 u18.2.2.2.2.2.2.2.1)), (19, u18.2.2.2.2.2.2.2.2.1), (1000005, u18.2.2.2.2.2.2.2.2.2)] (zsJ 18).1.toks 1
 out := fun y => (.exit 2, mkS 86 [(0, (AV.ptr 0 0)), (1, (qI y.1)), (5, (AV.vs 1000005 0 y.2.1 25)), (6, (qI y.2.2.1)), (7, (AV.ptr 7 0))] [(0, [(AV.list 1 y.2.2.2.1 (some 6400000000)), (qI y.2.2.2.2.1)]), (7, (zq8 y.2.2.2.2.2.1)), (19, y.2.2.2.2.2.2.1), (1000005, y.2.2.2.2.2.2.2)] (zsJ 18).2.toks 1)
 b := fun u18 α kn ke => (match (decide (u18.2.2.2.2.1 < u18.2.2.2.1)) with | true => (if 0 <= u18.2.2.2.2.1 /\ u18.2.2.2.2.1 < (u18.2.2.2.2.2.2.2.1.2.2.2.2.2.2.2.2.2.1 : Int) then (if (((0 + u18.2.2.2.2.1.toNat) * 9) + 4) + 1 <= u18.2.2.2.2.2.2.2.2.1.length then (if (((0 + u18.2.2.2.2.1.toNat) * 9) + 5) + 1 <= (splice u18.2.2.2.2.2.2.2.2.1 (((0 + u18.2.2.2.2.1.toNat) * 9) + 4) [(AV.v (.int .i64 (i64 ((i64 (1000 + (i64 (400 * u18.2.2.1)))) + u18.2.2.2.2.1))))]).length then (if (((0 + u18.2.2.2.2.1.toNat) * 9) + 6) + 1 <= (splice (splice u18.2.2.2.2.2.2.2.2.1 (((0 + u18.2.2.2.2.1.toNat) * 9) + 4) [(AV.v (.int .i64 (i64 ((i64 (1000 + (i64 (400 * u18.2.2.1)))) + u18.2.2.2.2.1))))]) (((0 + u18.2.2.2.2.1.toNat) * 9) + 5) [(AV.v (.int .i64 (i64 ((i64 (1000 + (i64 (400 * u18.2.2.1)))) + u18.2.2.2.2.1))))]).length then (if (((0 + u18.2.2.2.2.1.toNat) * 9) + 7) + 1 <= (splice (splice (splice u18.2.2.2.2.2.2.2.2.1 (((0 + u18.2.2.2.2.1.toNat) * 9) + 4) [(AV.v (.int .i64 (i64 ((i64 (1000 + (i64 (400 * u18.2.2.1)))) + u18.2.2.2.2.1))))]) (((0 + u18.2.2.2.2.1.toNat) * 9) + 5) [(AV.v (.int .i64 (i64 ((i64 (1000 + (i64 (400 * u18.2.2.1)))) + u18.2.2.2.2.1))))]) (((0 + u18.2.2.2.2.1.toNat) * 9) + 6) [(AV.v (.int .i64 (i64 ((i64 ((i64 (1000 + (i64 (400 * u18.2.2.1)))) + u18.2.2.2.2.1)) + 2))))]).length then (kn (u18.1, u18.2.1, u18.2.2.1, u18.2.2.2.1, (i64 (u18.2.2.2.2.1 + 1)), u18.2.2.2.2.2.1, u18.2.2.2.2.2.2.1, u18.2.2.2.2.2.2.2.1, ((splice (splice (splice (splice u18.2.2.2.2.2.2.2.2.1 (((0 + u18.2.2.2.2.1.toNat) * 9) + 4) [(AV.v (.int .i64 (i64 ((i64 (1000 + (i64 (400 * u18.2.2.1)))) + u18.2.2.2.2.1))))]) (((0 + u18.2.2.2.2.1.toNat) * 9) + 5) [(AV.v (.int .i64 (i64 ((i64 (1000 + (i64 (400 * u18.2.2.1)))) + u18.2.2.2.2.1))))]) (((0 + u18.2.2.2.2.1.toNat) * 9) + 6) [(AV.v (.int .i64 (i64 ((i64 ((i64 (1000 + (i64 (400 * u18.2.2.1)))) + u18.2.2.2.2.1)) + 2))))]) (((0 + u18.2.2.2.2.1.toNat) * 9) + 7) [(AV.v (.int .i64 7))]).map dat0), (u18.2.2.2.2.2.2.2.2.2.map dat0))) else none) else none) else none) else none) else none) | false => (ke (u18.1, u18.2.1, u18.2.2.1, u18.2.2.2.2.2.1, u18.2.2.2.2.2.2.1, u18.2.2.2.2.2.2.2.1, (u18.2.2.2.2.2.2.2.2.1.map dat0), (u18.2.2.2.2.2.2.2.2.2.map dat0))))
abbrev zBy (N : Nat) (x : Int × Nat × Int × Int × Int × qL × Int × zqq × qA × qA) : Option ((Int × Nat × Int × qL × Int × zqq × qA × qA)) := (zap N).L N x
def zaN (N : Nat) : LSpec where
 X := Nat × Int × Int × qL × Int × qA
 Y := (Nat × qL × Int × qA)
 p := fun s => rdS 86 1 [(5, .vs0 1000005 25), (0, .ptr 0 0), (1, .int .i64), (6, .int .i64)] [(0, .cells [.tok 1 6400000000, .int .i64]), (1000005, .tt)] s fun ⟨a0, _, a1, a2, _⟩ ⟨⟨a3, a4, _⟩, a5, _⟩ => (a0, a1, a2, a3, a4, a5)
 st := fun u5 => mkS 86 [(5, (AV.vs 1000005 0 u5.1 25)), (0, (AV.ptr 0 0)), (1, (qI u5.2.1)), (6, (qI u5.2.2.1))] [(0, [(AV.list 1 u5.2.2.2.1 (some 6400000000)), (qI u5.2.2.2.2.1)]), (1000005, u5.2.2.2.2.2)] (zsJ 5).1.toks 1
 out := fun y => (.exit 0, mkS 86 [(5, (AV.vs 1000005 0 y.1 25))] [(0, [(AV.list 1 y.2.1 (some 6400000000)), (qI y.2.2.1)]), (1000005, y.2.2.2)] (zsJ 5).2.toks 1)
 b := fun u5 α kn ke => (match (decide (u5.2.2.1 < u5.2.1)) with | true => (match zcD N (3, u5.2.2.2.1, u5.2.2.2.2.1) with | some y6 => (match (y6.1 == 0) with | true => (kn (u5.1, u5.2.1, (i64 (u5.2.2.1 + 1)), y6.2.1, y6.2.2, (u5.2.2.2.2.2.map dat0))) | false => (match znc N (1, y6.2) with | some y7 => (match zBy N (u5.2.1, u5.1, u5.2.2.1, ((y7.1.2.2.2.2.2.2.2.2.2.1 : Nat) : Int), 0, y7.2.1, y7.2.2.1, y7.1, ((y7.2.2.2.map dat0).map dat0), (u5.2.2.2.2.2.map dat0)) with | some y8 => (match zcD N (2, y8.2.2.2.1, y8.2.2.2.2.1) with | some y9 => (if 0 <= (if (i64 (((y8.2.2.2.2.2.1.2.2.2.2.2.2.2.2.2.1 : Nat) : Int) - 1)) < y9.1 then (i64 (((y8.2.2.2.2.2.1.2.2.2.2.2.2.2.2.2.1 : Nat) : Int) - 1)) else y9.1) /\ (if (i64 (((y8.2.2.2.2.2.1.2.2.2.2.2.2.2.2.2.1 : Nat) : Int) - 1)) < y9.1 then (i64 (((y8.2.2.2.2.2.1.2.2.2.2.2.2.2.2.2.1 : Nat) : Int) - 1)) else y9.1) <= (y8.2.2.2.2.2.1.2.2.2.2.2.2.2.2.2.1 : Int) then (if 0 <= (0 : Int) /\ (0 : Int) < (((y8.2.2.2.2.2.1.2.2.2.2.2.2.2.2.2.1 - (if (i64 (((y8.2.2.2.2.2.1.2.2.2.2.2.2.2.2.2.1 : Nat) : Int) - 1)) < y9.1 then (i64 (((y8.2.2.2.2.2.1.2.2.2.2.2.2.2.2.2.1 : Nat) : Int) - 1)) else y9.1).toNat) : Nat) : Int) then (match Jt (y8.2.2.2.2.2.2.1.drop (((0 + (if (i64 (((y8.2.2.2.2.2.1.2.2.2.2.2.2.2.2.2.1 : Nat) : Int) - 1)) < y9.1 then (i64 (((y8.2.2.2.2.2.1.2.2.2.2.2.2.2.2.2.1 : Nat) : Int) - 1)) else y9.1).toNat) + (0 : Int).toNat) * 9)) with | some e10 => (if (y8.2.2.2.2.2.1.2.2.2.2.2.2.2.2.2.1 - (if (i64 (((y8.2.2.2.2.2.1.2.2.2.2.2.2.2.2.2.1 : Nat) : Int) - 1)) < y9.1 then (i64 (((y8.2.2.2.2.2.1.2.2.2.2.2.2.2.2.2.1 : Nat) : Int) - 1)) else y9.1).toNat) * 9 <= (J1 (0 + (if (i64 (((y8.2.2.2.2.2.1.2.2.2.2.2.2.2.2.2.1 : Nat) : Int) - 1)) < y9.1 then (i64 (((y8.2.2.2.2.2.1.2.2.2.2.2.2.2.2.2.1 : Nat) : Int) - 1)) else y9.1).toNat) 9 y8.2.2.2.2.2.2.1).length then (if y8.2.1 * 25 <= y8.2.2.2.2.2.2.2.length /\ (y8.2.1 + [(zB (e10.1, e10.2.1, e10.2.2.1, e10.2.2.2.1, e10.2.2.2.2.1, e10.2.2.2.2.2.1, e10.2.2.2.2.2.2.1, e10.2.2.2.2.2.2.2.1, e10.2.2.2.2.2.2.2.2.1, (zJ ((J1 (0 + (if (i64 (((y8.2.2.2.2.2.1.2.2.2.2.2.2.2.2.2.1 : Nat) : Int) - 1)) < y9.1 then (i64 (((y8.2.2.2.2.2.1.2.2.2.2.2.2.2.2.2.1 : Nat) : Int) - 1)) else y9.1).toNat) 9 y8.2.2.2.2.2.2.1).take ((y8.2.2.2.2.2.1.2.2.2.2.2.2.2.2.2.1 - (if (i64 (((y8.2.2.2.2.2.1.2.2.2.2.2.2.2.2.2.1 : Nat) : Int) - 1)) < y9.1 then (i64 (((y8.2.2.2.2.2.1.2.2.2.2.2.2.2.2.2.1 : Nat) : Int) - 1)) else y9.1).toNat) * 9)) 9 (y8.2.2.2.2.2.1.2.2.2.2.2.2.2.2.2.1 - (if (i64 (((y8.2.2.2.2.2.1.2.2.2.2.2.2.2.2.2.1 : Nat) : Int) - 1)) < y9.1 then (i64 (((y8.2.2.2.2.2.1.2.2.2.2.2.2.2.2.2.1 : Nat) : Int) - 1)) else y9.1).toNat)), y8.2.2.2.2.2.1.2.2.2.2.2.2.2.2.2.2))].length) * 248 <= zh then (kn ((y8.2.1 + [(zB (e10.1, e10.2.1, e10.2.2.1, e10.2.2.2.1, e10.2.2.2.2.1, e10.2.2.2.2.2.1, e10.2.2.2.2.2.2.1, e10.2.2.2.2.2.2.2.1, e10.2.2.2.2.2.2.2.2.1, (zJ ((J1 (0 + (if (i64 (((y8.2.2.2.2.2.1.2.2.2.2.2.2.2.2.2.1 : Nat) : Int) - 1)) < y9.1 then (i64 (((y8.2.2.2.2.2.1.2.2.2.2.2.2.2.2.2.1 : Nat) : Int) - 1)) else y9.1).toNat) 9 y8.2.2.2.2.2.2.1).take ((y8.2.2.2.2.2.1.2.2.2.2.2.2.2.2.2.1 - (if (i64 (((y8.2.2.2.2.2.1.2.2.2.2.2.2.2.2.2.1 : Nat) : Int) - 1)) < y9.1 then (i64 (((y8.2.2.2.2.2.1.2.2.2.2.2.2.2.2.2.1 : Nat) : Int) - 1)) else y9.1).toNat) * 9)) 9 (y8.2.2.2.2.2.1.2.2.2.2.2.2.2.2.2.1 - (if (i64 (((y8.2.2.2.2.2.1.2.2.2.2.2.2.2.2.2.1 : Nat) : Int) - 1)) < y9.1 then (i64 (((y8.2.2.2.2.2.1.2.2.2.2.2.2.2.2.2.1 : Nat) : Int) - 1)) else y9.1).toNat)), y8.2.2.2.2.2.1.2.2.2.2.2.2.2.2.2.2))].length), y8.1, (i64 (y8.2.2.1 + 1)), y9.2.1, y9.2.2, ((y8.2.2.2.2.2.2.2.take (y8.2.1 * 25) ++ [(zB (e10.1, e10.2.1, e10.2.2.1, e10.2.2.2.1, e10.2.2.2.2.1, e10.2.2.2.2.2.1, e10.2.2.2.2.2.2.1, e10.2.2.2.2.2.2.2.1, e10.2.2.2.2.2.2.2.2.1, (zJ ((J1 (0 + (if (i64 (((y8.2.2.2.2.2.1.2.2.2.2.2.2.2.2.2.1 : Nat) : Int) - 1)) < y9.1 then (i64 (((y8.2.2.2.2.2.1.2.2.2.2.2.2.2.2.2.1 : Nat) : Int) - 1)) else y9.1).toNat) 9 y8.2.2.2.2.2.2.1).take ((y8.2.2.2.2.2.1.2.2.2.2.2.2.2.2.2.1 - (if (i64 (((y8.2.2.2.2.2.1.2.2.2.2.2.2.2.2.2.1 : Nat) : Int) - 1)) < y9.1 then (i64 (((y8.2.2.2.2.2.1.2.2.2.2.2.2.2.2.2.1 : Nat) : Int) - 1)) else y9.1).toNat) * 9)) 9 (y8.2.2.2.2.2.1.2.2.2.2.2.2.2.2.2.1 - (if (i64 (((y8.2.2.2.2.2.1.2.2.2.2.2.2.2.2.2.1 : Nat) : Int) - 1)) < y9.1 then (i64 (((y8.2.2.2.2.2.1.2.2.2.2.2.2.2.2.2.1 : Nat) : Int) - 1)) else y9.1).toNat)), y8.2.2.2.2.2.1.2.2.2.2.2.2.2.2.2.2))].flatten).map dat0))) else none) else none) | none => none) else none) else none) | none => none) | none => none) | none => none)) | none => none) | false => (ke (u5.1, u5.2.2.2.1, u5.2.2.2.2.1, (u5.2.2.2.2.2.map dat0))))
abbrev zBd (N : Nat) (x : Nat × Int × Int × qL × Int × qA) : Option ((Nat × qL × Int × qA)) := (zaN N).L N x
def zEc (N : Nat) : FSpec where
 X := Int × qL × Int
 Y := qL × qL × Int
 ash := [[none], [none]]
 bsh := [[some 2000001, none]]
 S := ⟨[[some 2000025]], [[some 2000001, none]], [], [6400000000], []⟩
 pat := fun a b => rdA [.ptr 0 0, .int .i64] [.cells [.tok 1 6400000000, .int .i64]] a b fun ⟨_, a0, _⟩ ⟨⟨a1, a2, _⟩, _⟩ => (a0, a1, a2)
 args := fun x => [(AV.ptr 0 0), (AV.v (.int .i64 x.1))]
 bs := fun x => [[(AV.list 1 x.2.1 (some 6400000000)), (AV.v (.int .i64 x.2.2))]]
 ret := fun y => ⟨(AV.list 25 y.1 (some 2560000000)), [[(AV.list 1 y.2.1 (some 6400000000)), (AV.v (.int .i64 y.2.2))]], none, [6400000000], [6400000000, 2560000000], [], none⟩
 t := fun x α k => (match zBd N (0, x.1, 0, x.2.1, x.2.2, ([] : List AV)) with | some y11 => (if y11.1 * 25 <= y11.2.2.2.length then (k ((zJ (y11.2.2.2.take (y11.1 * 25)) 25 y11.1), y11.2.1, y11.2.2.1)) else none) | none => none)
abbrev zwF (N : Nat) (x : Int × qL × Int) : Option (qL × qL × Int) := (zEc N).d x
def zxy (N : Nat) : FSpec where
 X := qL × qL × Int
 Y := ByteArray × qL × Int
 ash := [[none], [some 1]]
 bsh := [[some 2000001, none]]
 S := ⟨[[none]], [[some 2000001, none]], [], [6400000000], []⟩
 pat := fun a b => rdA [.ptr 0 0, .lst 1] [.cells [.tok 1 6400000000, .int .i64]] a b fun ⟨_, a0, _⟩ ⟨⟨a1, a2, _⟩, _⟩ => (a0, a1, a2)
 args := fun x => [(AV.ptr 0 0), (AV.list 1 x.1 none)]
 bs := fun x => [[(AV.list 1 x.2.1 (some 6400000000)), (AV.v (.int .i64 x.2.2))]]
 ret := fun y => ⟨(AV.v (.string y.1)), [[(AV.list 1 y.2.1 (some 6400000000)), (AV.v (.int .i64 y.2.2))]], none, [6400000000], [6400000000], [], none⟩
 t := fun x α k => (match zcD N ((x.1.length : Int), x.2) with | some y1 => (if 0 <= y1.1 then (match x.1[y1.1.toNat]? with | some c2 => (match c2[0]? with | some x3 => (match x3 with | .v (.string s4) => (k (s4, y1.2)) | _ => none) | none => none) | none => none) else none) | none => none)
abbrev zhU (N : Nat) (x : qL × qL × Int) : Option (ByteArray × qL × Int) := (zxy N).d x
def zwA : Nat -> Keep × Keep := anL []
def zDj (N : Nat) : GamK := gam (P := qP) [ztx N]
def zfT (N : Nat) : FSpec where
 X := qL × Int × ByteArray × RT0 × Int
 Y := qL × Int
 ash := [[some 1], [none], [none], [none, none, none, none, none, none, none, none, none, some 9, none, none, none, none, none, none, none, none, none, none, none, none, none, none, none], [none]]
 S := ⟨[[some 1], [none]], [], [], [], []⟩
 pat := fun a b => zk a fun v1 c2 => ji v1 fun c3 => zk c3 fun c4 c5 => jb 1 c4 fun a0 => zQ c5 <| zk c2 fun v6 c7 => Jk .i64 v6 fun a1 => zk c7 fun v8 c9 => zsh v8 fun a2 => zk c9 fun v10 c11 => zvX RK0 v10 fun a3 => zk c11 fun v12 c13 => Jk .i64 v12 fun a4 => zQ c13 <| zQ b <| some (a0, a1, a2, a3, a4)
 args := fun x => [(AV.agg [(AV.list 1 x.1 none)]), (AV.v (.int .i64 x.2.1)), (AV.v (.string x.2.2.1)), (AV.agg (zB x.2.2.2.1)), (AV.v (.int .i64 x.2.2.2.2))]
 ret := fun y => ⟨(AV.tup [(AV.agg [(AV.list 1 y.1 none)]), (AV.v (.int .i64 y.2))]), [], none, [], [], [], none⟩
 t := fun x α k => (match zdV N (x.1, x.2.1, (3, x.2.2.2.2, x.2.2.1, 0, x.2.2.2.1.1, x.2.2.2.1.2.1, x.2.2.2.1.2.2.1, x.2.2.2.1.2.2.2.1, x.2.2.2.1.2.2.2.2.1, x.2.2.2.1.2.2.2.2.2.1, x.2.2.2.1.2.2.2.2.2.2.1, x.2.2.2.1.2.2.2.2.2.2.2.1, x.2.2.2.1.2.2.2.2.2.2.2.2.1, x.2.2.2.1.2.2.2.2.2.2.2.2.2.1, x.2.2.2.1.2.2.2.2.2.2.2.2.2.2.1, x.2.2.2.1.2.2.2.2.2.2.2.2.2.2.2.1, x.2.2.2.1.2.2.2.2.2.2.2.2.2.2.2.2.1, x.2.2.2.1.2.2.2.2.2.2.2.2.2.2.2.2.2.1, x.2.2.2.1.2.2.2.2.2.2.2.2.2.2.2.2.2.2.1, x.2.2.2.1.2.2.2.2.2.2.2.2.2.2.2.2.2.2.2.1, x.2.2.2.1.2.2.2.2.2.2.2.2.2.2.2.2.2.2.2.2.1, x.2.2.2.1.2.2.2.2.2.2.2.2.2.2.2.2.2.2.2.2.2.1, x.2.2.2.1.2.2.2.2.2.2.2.2.2.2.2.2.2.2.2.2.2.2.1, x.2.2.2.1.2.2.2.2.2.2.2.2.2.2.2.2.2.2.2.2.2.2.2.1, x.2.2.2.1.2.2.2.2.2.2.2.2.2.2.2.2.2.2.2.2.2.2.2.2.1, x.2.2.2.1.2.2.2.2.2.2.2.2.2.2.2.2.2.2.2.2.2.2.2.2.2.1, x.2.2.2.1.2.2.2.2.2.2.2.2.2.2.2.2.2.2.2.2.2.2.2.2.2.2.1, x.2.2.2.1.2.2.2.2.2.2.2.2.2.2.2.2.2.2.2.2.2.2.2.2.2.2.2.1, x.2.2.2.1.2.2.2.2.2.2.2.2.2.2.2.2.2.2.2.2.2.2.2.2.2.2.2.2.1, ())) with | some y1 => (k y1) | none => none)
abbrev zyw (N : Nat) (x : qL × Int × ByteArray × RT0 × Int) : Option (qL × Int) := (zfT N).d x
theorem zrc (N : Nat) : Zd (zfT N).t := by
 intro x α β k k' r r' h h1
 revert h
 dsimp only [zfT]
 (repeat' (first | (with_reducible refine ze ?_ ?_) | split)) <;> intro h <;> first | exact h1 _ h | cases h
theorem zrd (N : Nat) : Zf (zn qP) (zDj N) zwA (lam N []) Tryd.f26 (zfT N) := fun x => by kernel_rfl
theorem zy3 (N : Nat) (a : List AV) (b : qL) (x : (zfT N).X) (h : (zfT N).pat a b = some x) : a = (zfT N).args x /\ b = (zfT N).bs x := by
 obtain ⟨v1, c2, rfl, g0⟩ := zb (show zk _ _ = some x from h)
 obtain ⟨c3, rfl, g1⟩ := zS g0; clear g0
 obtain ⟨c4, c5, rfl, g2⟩ := zb g1; clear g1
 obtain ⟨a0, rfl, g3⟩ := zq g2; clear g2
 obtain ⟨rfl, g4⟩ := zg g3; clear g3
 obtain ⟨v6, c7, rfl, g5⟩ := zb g4; clear g4
 obtain ⟨a1, rfl, g6⟩ := zG g5; clear g5
 obtain ⟨v8, c9, rfl, g7⟩ := zb g6; clear g6
 obtain ⟨a2, rfl, g8⟩ := zbs g7; clear g7
 obtain ⟨v10, c11, rfl, g9⟩ := zb g8; clear g8
 obtain ⟨a3, rfl, g10⟩ := zda g9; clear g9
 obtain ⟨v12, c13, rfl, g11⟩ := zb g10; clear g10
 obtain ⟨a4, rfl, g12⟩ := zG g11; clear g11
 obtain ⟨rfl, g13⟩ := zg g12; clear g12
 obtain ⟨rfl, g14⟩ := zg g13; clear g13
 clear h
 cases g14
 exact ⟨rfl, rfl⟩
def zCG (N : Nat) : Ent qP := zx (zd qP) (zi _) zl 26 Tryd.f26 Tryd.func26 rfl zwA (lam N []) (zm (l := []) an (by kernel_rfl)) (zfT N) (fun _ => ⟨rfl, rfl⟩) (zrd N) (zy3 N) (zrc N)
def zvO : Nat -> Keep × Keep := anL []
def zC1 (N : Nat) : GamK := gam (P := qP) [ztx N]
def zfR (N : Nat) : FSpec where
 X := qL × Int × ByteArray × Int
 Y := qL × Int
 ash := [[some 1], [none], [none], [none]]
 S := ⟨[[some 1], [none]], [], [], [], []⟩
 pat := fun a b => zk a fun v1 c2 => ji v1 fun c3 => zk c3 fun c4 c5 => jb 1 c4 fun a0 => zQ c5 <| zk c2 fun v6 c7 => Jk .i64 v6 fun a1 => zk c7 fun v8 c9 => zsh v8 fun a2 => zk c9 fun v10 c11 => Jk .i64 v10 fun a3 => zQ c11 <| zQ b <| some (a0, a1, a2, a3)
 args := fun x => [(AV.agg [(AV.list 1 x.1 none)]), (AV.v (.int .i64 x.2.1)), (AV.v (.string x.2.2.1)), (AV.v (.int .i64 x.2.2.2))]
 ret := fun y => ⟨(AV.tup [(AV.agg [(AV.list 1 y.1 none)]), (AV.v (.int .i64 y.2))]), [], none, [], [], [], none⟩
 t := fun x α k => (match zdV N (x.1, x.2.1, (4, x.2.2.2, x.2.2.1, 0, (⟨#[]⟩ : ByteArray), (⟨#[]⟩ : ByteArray), (⟨#[]⟩ : ByteArray), (⟨#[]⟩ : ByteArray), 0, 0, 0, 0, 0, ([] : qL), 0, 0, 0, 0, 0, 0, 0, 0, 0, 0, 0, 0, 0, 0, 0, ())) with | some y1 => (k y1) | none => none)
abbrev zy4 (N : Nat) (x : qL × Int × ByteArray × Int) : Option (qL × Int) := (zfR N).d x
theorem zrz (N : Nat) : Zd (zfR N).t := by
 intro x α β k k' r r' h h1
 revert h
 dsimp only [zfR]
 (repeat' (first | (with_reducible refine ze ?_ ?_) | split)) <;> intro h <;> first | exact h1 _ h | cases h
theorem ztw (N : Nat) : Zf (zn qP) (zC1 N) zvO (lam N []) Tryd.f28 (zfR N) := fun x => by kernel_rfl
theorem zyU (N : Nat) (a : List AV) (b : qL) (x : (zfR N).X) (h : (zfR N).pat a b = some x) : a = (zfR N).args x /\ b = (zfR N).bs x := by
 obtain ⟨v1, c2, rfl, g0⟩ := zb (show zk _ _ = some x from h)
 obtain ⟨c3, rfl, g1⟩ := zS g0; clear g0
 obtain ⟨c4, c5, rfl, g2⟩ := zb g1; clear g1
 obtain ⟨a0, rfl, g3⟩ := zq g2; clear g2
 obtain ⟨rfl, g4⟩ := zg g3; clear g3
 obtain ⟨v6, c7, rfl, g5⟩ := zb g4; clear g4
 obtain ⟨a1, rfl, g6⟩ := zG g5; clear g5
 obtain ⟨v8, c9, rfl, g7⟩ := zb g6; clear g6
 obtain ⟨a2, rfl, g8⟩ := zbs g7; clear g7
 obtain ⟨v10, c11, rfl, g9⟩ := zb g8; clear g8
 obtain ⟨a3, rfl, g10⟩ := zG g9; clear g9
 obtain ⟨rfl, g11⟩ := zg g10; clear g10
 obtain ⟨rfl, g12⟩ := zg g11; clear g11
 clear h
 cases g12
 exact ⟨rfl, rfl⟩
def zCv (N : Nat) : Ent qP := zx (zd qP) (zi _) zl 28 Tryd.f28 Tryd.func28 rfl zvO (lam N []) (zm (l := []) an (by kernel_rfl)) (zfR N) (fun _ => ⟨rfl, rfl⟩) (ztw N) (zyU N) (zrz N)
def zv7 : Nat -> Keep × Keep := anL []
def zD2 (N : Nat) : GamK := gam (P := qP) [ztx N]
def zfC (N : Nat) : FSpec where
 X := qL × Int × Int × ByteArray × Int
 Y := qL × Int
 ash := [[some 1], [none], [none], [none], [none]]
 S := ⟨[[some 1], [none]], [], [], [], []⟩
 pat := fun a b => zk a fun v1 c2 => ji v1 fun c3 => zk c3 fun c4 c5 => jb 1 c4 fun a0 => zQ c5 <| zk c2 fun v6 c7 => Jk .i64 v6 fun a1 => zk c7 fun v8 c9 => Jk .i64 v8 fun a2 => zk c9 fun v10 c11 => zsh v10 fun a3 => zk c11 fun v12 c13 => Jk .i64 v12 fun a4 => zQ c13 <| zQ b <| some (a0, a1, a2, a3, a4)
 args := fun x => [(AV.agg [(AV.list 1 x.1 none)]), (AV.v (.int .i64 x.2.1)), (AV.v (.int .i64 x.2.2.1)), (AV.v (.string x.2.2.2.1)), (AV.v (.int .i64 x.2.2.2.2))]
 ret := fun y => ⟨(AV.tup [(AV.agg [(AV.list 1 y.1 none)]), (AV.v (.int .i64 y.2))]), [], none, [], [], [], none⟩
 t := fun x α k => (match zdV N (x.1, x.2.1, (5, x.2.2.2.2, x.2.2.2.1, x.2.2.1, (⟨#[]⟩ : ByteArray), (⟨#[]⟩ : ByteArray), (⟨#[]⟩ : ByteArray), (⟨#[]⟩ : ByteArray), 0, 0, 0, 0, 0, ([] : qL), 0, 0, 0, 0, 0, 0, 0, 0, 0, 0, 0, 0, 0, 0, 0, ())) with | some y1 => (k y1) | none => none)
abbrev zwS (N : Nat) (x : qL × Int × Int × ByteArray × Int) : Option (qL × Int) := (zfC N).d x
theorem zr7 (N : Nat) : Zd (zfC N).t := by
 intro x α β k k' r r' h h1
 revert h
 dsimp only [zfC]
 (repeat' (first | (with_reducible refine ze ?_ ?_) | split)) <;> intro h <;> first | exact h1 _ h | cases h
theorem zsV (N : Nat) : Zf (zn qP) (zD2 N) zv7 (lam N []) Tryd.f29 (zfC N) := fun x => by kernel_rfl
theorem zyn (N : Nat) (a : List AV) (b : qL) (x : (zfC N).X) (h : (zfC N).pat a b = some x) : a = (zfC N).args x /\ b = (zfC N).bs x := by
 obtain ⟨v1, c2, rfl, g0⟩ := zb (show zk _ _ = some x from h)
 obtain ⟨c3, rfl, g1⟩ := zS g0; clear g0
 obtain ⟨c4, c5, rfl, g2⟩ := zb g1; clear g1
 obtain ⟨a0, rfl, g3⟩ := zq g2; clear g2
 obtain ⟨rfl, g4⟩ := zg g3; clear g3
 obtain ⟨v6, c7, rfl, g5⟩ := zb g4; clear g4
 obtain ⟨a1, rfl, g6⟩ := zG g5; clear g5
 obtain ⟨v8, c9, rfl, g7⟩ := zb g6; clear g6
 obtain ⟨a2, rfl, g8⟩ := zG g7; clear g7
 obtain ⟨v10, c11, rfl, g9⟩ := zb g8; clear g8
 obtain ⟨a3, rfl, g10⟩ := zbs g9; clear g9
 obtain ⟨v12, c13, rfl, g11⟩ := zb g10; clear g10
 obtain ⟨a4, rfl, g12⟩ := zG g11; clear g11
 obtain ⟨rfl, g13⟩ := zg g12; clear g12
 obtain ⟨rfl, g14⟩ := zg g13; clear g13
 clear h
 cases g14
 exact ⟨rfl, rfl⟩
def zC3 (N : Nat) : Ent qP := zx (zd qP) (zi _) zl 29 Tryd.f29 Tryd.func29 rfl zv7 (lam N []) (zm (l := []) an (by kernel_rfl)) (zfC N) (fun _ => ⟨rfl, rfl⟩) (zsV N) (zyn N) (zr7 N)
def zvr : Nat -> Keep × Keep := anL []
def zCk (N : Nat) : GamK := gam (P := qP) [ztx N]
def zfm (N : Nat) : FSpec where
 X := qL × Int × ByteArray × Int
 Y := qL × Int
 ash := [[some 1], [none], [none], [none]]
 S := ⟨[[some 1], [none]], [], [], [], []⟩
 pat := fun a b => zk a fun v1 c2 => ji v1 fun c3 => zk c3 fun c4 c5 => jb 1 c4 fun a0 => zQ c5 <| zk c2 fun v6 c7 => Jk .i64 v6 fun a1 => zk c7 fun v8 c9 => zsh v8 fun a2 => zk c9 fun v10 c11 => Jk .i64 v10 fun a3 => zQ c11 <| zQ b <| some (a0, a1, a2, a3)
 args := fun x => [(AV.agg [(AV.list 1 x.1 none)]), (AV.v (.int .i64 x.2.1)), (AV.v (.string x.2.2.1)), (AV.v (.int .i64 x.2.2.2))]
 ret := fun y => ⟨(AV.tup [(AV.agg [(AV.list 1 y.1 none)]), (AV.v (.int .i64 y.2))]), [], none, [], [], [], none⟩
 t := fun x α k => (match zdV N (x.1, x.2.1, (6, x.2.2.2, x.2.2.1, 0, (⟨#[]⟩ : ByteArray), (⟨#[]⟩ : ByteArray), (⟨#[]⟩ : ByteArray), (⟨#[]⟩ : ByteArray), 0, 0, 0, 0, 0, ([] : qL), 0, 0, 0, 0, 0, 0, 0, 0, 0, 0, 0, 0, 0, 0, 0, ())) with | some y1 => (k y1) | none => none)
abbrev zxP (N : Nat) (x : qL × Int × ByteArray × Int) : Option (qL × Int) := (zfm N).d x
theorem zqZ (N : Nat) : Zd (zfm N).t := by
 intro x α β k k' r r' h h1
 revert h
 dsimp only [zfm]
 (repeat' (first | (with_reducible refine ze ?_ ?_) | split)) <;> intro h <;> first | exact h1 _ h | cases h
theorem zqH (N : Nat) : Zf (zn qP) (zCk N) zvr (lam N []) Tryd.f30 (zfm N) := fun x => by kernel_rfl
theorem zxj (N : Nat) (a : List AV) (b : qL) (x : (zfm N).X) (h : (zfm N).pat a b = some x) : a = (zfm N).args x /\ b = (zfm N).bs x := by
 obtain ⟨v1, c2, rfl, g0⟩ := zb (show zk _ _ = some x from h)
 obtain ⟨c3, rfl, g1⟩ := zS g0; clear g0
 obtain ⟨c4, c5, rfl, g2⟩ := zb g1; clear g1
 obtain ⟨a0, rfl, g3⟩ := zq g2; clear g2
 obtain ⟨rfl, g4⟩ := zg g3; clear g3
 obtain ⟨v6, c7, rfl, g5⟩ := zb g4; clear g4
 obtain ⟨a1, rfl, g6⟩ := zG g5; clear g5
 obtain ⟨v8, c9, rfl, g7⟩ := zb g6; clear g6
 obtain ⟨a2, rfl, g8⟩ := zbs g7; clear g7
 obtain ⟨v10, c11, rfl, g9⟩ := zb g8; clear g8
 obtain ⟨a3, rfl, g10⟩ := zG g9; clear g9
 obtain ⟨rfl, g11⟩ := zg g10; clear g10
 obtain ⟨rfl, g12⟩ := zg g11; clear g11
 clear h
 cases g12
 exact ⟨rfl, rfl⟩
def zDO (N : Nat) : Ent qP := zx (zd qP) (zi _) zl 30 Tryd.f30 Tryd.func30 rfl zvr (lam N []) (zm (l := []) an (by kernel_rfl)) (zfm N) (fun _ => ⟨rfl, rfl⟩) (zqH N) (zxj N) (zqZ N)
def zzQ : Nat -> Keep × Keep := anL [(6, ⟨[0, 1, 4, 6, 7, 8], [], [0, 4, 6], [], [((0, 0), 1), ((4, 0), 1)], [], [], [], false, none, [((6, 0), 1)]⟩, ⟨[4, 6, 7], [], [0, 4, 6], [], [((0, 0), 1), ((4, 0), 1)], [], [], [], false, none, [((6, 0), 1)]⟩)]
def zaC (N : Nat) : LSpec where
 X := Int × Int × Int × qL × Int × qL × qL
 Y := (Int × qL × Int × qL × qL)
 p := fun s => rdS 111 1 [(0, .ptr 0 0), (1, .int .i64), (4, .ptr 4 0), (6, .ptr 6 0), (7, .int .i64), (8, .int .i64)] [(0, .cells [.tok 1 6400000000, .int .i64]), (4, .cells [.tok 1 6401048576]), (6, .cells [.lst 1])] s fun ⟨_, a0, _, _, a1, a2, _⟩ ⟨⟨a3, a4, _⟩, ⟨a5, _⟩, ⟨a6, _⟩, _⟩ => (a0, a1, a2, a3, a4, a5, a6)
 st := fun u6 => mkS 111 [(0, (AV.ptr 0 0)), (1, (qI u6.1)), (4, (AV.ptr 4 0)), (6, (AV.ptr 6 0)), (7, (qI u6.2.1)), (8, (qI u6.2.2.1))] [(0, [(AV.list 1 u6.2.2.2.1 (some 6400000000)), (qI u6.2.2.2.2.1)]), (4, [(AV.list 1 u6.2.2.2.2.2.1 (some 6401048576))]), (6, [(AV.list 1 u6.2.2.2.2.2.2 none)])] (zzQ 6).1.toks 1
 out := fun y => (.exit 0, mkS 111 [(4, (AV.ptr 4 0)), (6, (AV.ptr 6 0)), (7, (qI y.1))] [(0, [(AV.list 1 y.2.1 (some 6400000000)), (qI y.2.2.1)]), (4, [(AV.list 1 y.2.2.2.1 (some 6401048576))]), (6, [(AV.list 1 y.2.2.2.2 none)])] (zzQ 6).2.toks 1)
 b := fun u6 α kn ke => (match (decide (u6.2.2.1 < u6.1)) with | true => (match zcD N (50, u6.2.2.2.1, u6.2.2.2.2.1) with | some y19 => (match zcD N ((if (u6.2.2.2.2.2.2.length : Int) > 1 then (u6.2.2.2.2.2.2.length : Int) else 1), y19.2) with | some y20 => (match zcD N (8, y20.2) with | some y21 => (match (y21.1 == 0) with | true => (match zwF N (4, y21.2) with | some y22 => (match (decide ((y22.1.length : Int) > 0)) with | true => (match zhU N ([[(AV.v (.string (⟨#[97, 110, 110]⟩ : ByteArray)))], [(AV.v (.string (⟨#[98, 111, 98]⟩ : ByteArray)))]], y22.2) with | some y23 => (match zcD N ((y22.1.length : Int), y23.2) with | some y24 => (if 0 <= y24.1 then (match y22.1[y24.1.toNat]? with | some c25 => (match zgT c25 with | some e26 => (match zyw N (u6.2.2.2.2.2.2, y20.1, y23.1, e26, (i64 (u6.2.1 + y19.1))) with | some y27 => (match (y27.2 == 0) with | true => (kn (u6.1, (i64 (u6.2.1 + y19.1)), (i64 (u6.2.2.1 + 1)), y24.2.1, y24.2.2, u6.2.2.2.2.2.1, y27.1)) | false => (kn (u6.1, (i64 (u6.2.1 + y19.1)), (i64 (u6.2.2.1 + 1)), y24.2.1, y24.2.2, u6.2.2.2.2.2))) | none => none) | none => none) | none => none) else none) | none => none) | none => none) | false => (match (0 == 0) with | true => (kn (u6.1, (i64 (u6.2.1 + y19.1)), (i64 (u6.2.2.1 + 1)), y22.2.1, y22.2.2, u6.2.2.2.2.2)) | false => (kn (u6.1, (i64 (u6.2.1 + y19.1)), (i64 (u6.2.2.1 + 1)), y22.2.1, y22.2.2, u6.2.2.2.2.2)))) | none => none) | false => (match (y21.1 == 1) with | true => (match zhU N ([[(AV.v (.string (⟨#[97, 110, 110]⟩ : ByteArray)))], [(AV.v (.string (⟨#[98, 111, 98]⟩ : ByteArray)))]], y21.2) with | some y28 => (match zy4 N (u6.2.2.2.2.2.2, y20.1, y28.1, (i64 (u6.2.1 + y19.1))) with | some y29 => (match (y29.2 == 0) with | true => (kn (u6.1, (i64 (u6.2.1 + y19.1)), (i64 (u6.2.2.1 + 1)), y28.2.1, y28.2.2, u6.2.2.2.2.2.1, y29.1)) | false => (kn (u6.1, (i64 (u6.2.1 + y19.1)), (i64 (u6.2.2.1 + 1)), y28.2.1, y28.2.2, u6.2.2.2.2.2))) | none => none) | none => none) | false => (match (y21.1 == 2) with | true => (match zcD N ((if (u6.2.2.2.2.2.2.length : Int) > 1 then (u6.2.2.2.2.2.2.length : Int) else 1), y21.2) with | some y30 => (match zhU N ([[(AV.v (.string (⟨#[97, 110, 110]⟩ : ByteArray)))], [(AV.v (.string (⟨#[98, 111, 98]⟩ : ByteArray)))]], y30.2) with | some y31 => (match zwS N (u6.2.2.2.2.2.2, y20.1, y30.1, y31.1, (i64 (u6.2.1 + y19.1))) with | some y32 => (match (y32.2 == 0) with | true => (kn (u6.1, (i64 (u6.2.1 + y19.1)), (i64 (u6.2.2.1 + 1)), y31.2.1, y31.2.2, u6.2.2.2.2.2.1, y32.1)) | false => (kn (u6.1, (i64 (u6.2.1 + y19.1)), (i64 (u6.2.2.1 + 1)), y31.2.1, y31.2.2, u6.2.2.2.2.2))) | none => none) | none => none) | none => none) | false => (match (y21.1 == 3) with | true => (match zhU N ([[(AV.v (.string (⟨#[97, 110, 110]⟩ : ByteArray)))], [(AV.v (.string (⟨#[98, 111, 98]⟩ : ByteArray)))]], y21.2) with | some y33 => (match zxP N (u6.2.2.2.2.2.2, y20.1, y33.1, (i64 (u6.2.1 + y19.1))) with | some y34 => (match (y34.2 == 0) with | true => (kn (u6.1, (i64 (u6.2.1 + y19.1)), (i64 (u6.2.2.1 + 1)), y33.2.1, y33.2.2, u6.2.2.2.2.2.1, y34.1)) | false => (kn (u6.1, (i64 (u6.2.1 + y19.1)), (i64 (u6.2.2.1 + 1)), y33.2.1, y33.2.2, u6.2.2.2.2.2))) | none => none) | none => none) | false => (match zwF N (4, y21.2) with | some y35 => (match zsI N (u6.2.2.2.2.2.2, y35.1, (i64 (u6.2.1 + y19.1))) with | some y36 => (match (y36.2.2 == 0) with | true => (kn (u6.1, (i64 (u6.2.1 + y19.1)), (i64 (u6.2.2.1 + 1)), y35.2.1, y35.2.2, u6.2.2.2.2.2.1, y36.1)) | false => (kn (u6.1, (i64 (u6.2.1 + y19.1)), (i64 (u6.2.2.1 + 1)), y35.2.1, y35.2.2, u6.2.2.2.2.2))) | none => none) | none => none))))) | none => none) | none => none) | none => none) | false => (ke (u6.2.1, u6.2.2.2)))
abbrev zBj (N : Nat) (x : Int × Int × Int × qL × Int × qL × qL) : Option ((Int × qL × Int × qL × qL)) := (zaC N).L N x
def zEb (N : Nat) : FSpec where
 X := Int × qL × Int
 Y := qL × Int × qL × Int
 ash := [[none], [none]]
 bsh := [[some 2000001, none]]
 S := ⟨[[some 1], [none]], [[some 2000001, none]], [], [6400000000], []⟩
 pat := fun a b => rdA [.ptr 0 0, .int .i64] [.cells [.tok 1 6400000000, .int .i64]] a b fun ⟨_, a0, _⟩ ⟨⟨a1, a2, _⟩, _⟩ => (a0, a1, a2)
 args := fun x => [(AV.ptr 0 0), (AV.v (.int .i64 x.1))]
 bs := fun x => [[(AV.list 1 x.2.1 (some 6400000000)), (AV.v (.int .i64 x.2.2))]]
 ret := fun y => ⟨(AV.tup [(AV.agg [(AV.list 1 y.1 none)]), (AV.v (.int .i64 y.2.1))]), [[(AV.list 1 y.2.2.1 (some 6400000000)), (AV.v (.int .i64 y.2.2.2))]], none, [6400000000], [6400000000], [], none⟩
 t := fun x α k => (match zBj N (x.1, 100, 0, x.2.1, x.2.2, ([] : qL), ([] : qL)) with | some y37 => (k (y37.2.2.2.2, y37.1, y37.2.1, y37.2.2.1)) | none => none)
abbrev zDt (N : Nat) (x : Int × qL × Int) : Option (qL × Int × qL × Int) := (zEb N).d x
def zv9 : Nat -> Keep × Keep := anL []
def zDr (N : Nat) : GamK := gam (P := qP) [zzq N]
def zoo (N : Nat) : FSpec where
 X := Unit
 Y := RT0
 ash := []
 S := ⟨[[none, none, none, none, none, none, none, none, none, some 9, none, none, none, none, none, none, none, none, none, none, none, none, none, none, none]], [], [], [], []⟩
 pat := fun a b => rdA [] [] a b fun _ _ => ()
 args := fun x => []
 ret := fun y => ⟨(AV.agg (zB y)), [], none, [], [], [], none⟩
 t := fun x α k => (match ztC N 0 with | some y1 => (k (y1.1, y1.2.1, y1.2.2.1, y1.2.2.2.1, 1000, 0, 0, 0, 0, [(zw (y1.1, y1.2.1, y1.2.2.1, y1.2.2.2.1, 1000, 0, 0, 0, 0, ()))], 0, 0, 0, 0, 0, 0, 0, 0, 0, 0, 0, 0, 0, 0, 0, ())) | none => none)
abbrev zzu (N : Nat) (x : Unit) : Option (RT0) := (zoo N).d x
theorem zrD (N : Nat) : Zd (zoo N).t := by
 intro x α β k k' r r' h h1
 revert h
 dsimp only [zoo]
 (repeat' (first | (with_reducible refine ze ?_ ?_) | split)) <;> intro h <;> first | exact h1 _ h | cases h
theorem ztf (N : Nat) : Zf (zn qP) (zDr N) zv9 (lam N []) Tryd.f41 (zoo N) := fun x => by kernel_rfl
def zC7 (N : Nat) : Ent qP := zx (zd qP) (zi _) zl 41 Tryd.f41 Tryd.func41 rfl zv9 (lam N []) (zm (l := []) an (by kernel_rfl)) (zoo N) (fun _ => ⟨rfl, rfl⟩) (ztf N) (fun _ _ _ h => zu h (fun _ _ => rfl) (fun _ _ => rfl)) (zrD N)
def zvK : Nat -> Keep × Keep := anL []
def zDG (N : Nat) : GamK := gam (P := qP) [zDV N]
def zeX (N : Nat) : FSpec where
 X := qL × Int × ByteArray × RT0 × Int
 Y := qL × Int
 ash := [[some 1], [none], [none], [none, none, none, none, none, none, none, none, none, some 9, none, none, none, none, none, none, none, none, none, none, none, none, none, none, none], [none]]
 S := ⟨[[some 1], [none]], [], [], [], []⟩
 pat := fun a b => zk a fun v1 c2 => ji v1 fun c3 => zk c3 fun c4 c5 => jb 1 c4 fun a0 => zQ c5 <| zk c2 fun v6 c7 => Jk .i64 v6 fun a1 => zk c7 fun v8 c9 => zsh v8 fun a2 => zk c9 fun v10 c11 => zvX RK0 v10 fun a3 => zk c11 fun v12 c13 => Jk .i64 v12 fun a4 => zQ c13 <| zQ b <| some (a0, a1, a2, a3, a4)
 args := fun x => [(AV.agg [(AV.list 1 x.1 none)]), (AV.v (.int .i64 x.2.1)), (AV.v (.string x.2.2.1)), (AV.agg (zB x.2.2.2.1)), (AV.v (.int .i64 x.2.2.2.2))]
 ret := fun y => ⟨(AV.tup [(AV.agg [(AV.list 1 y.1 none)]), (AV.v (.int .i64 y.2))]), [], none, [], [], [], none⟩
 t := fun x α k => (match zCZ N (x.1, x.2.1, (3, x.2.2.2.2, x.2.2.1, 0, x.2.2.2.1.1, x.2.2.2.1.2.1, x.2.2.2.1.2.2.1, x.2.2.2.1.2.2.2.1, x.2.2.2.1.2.2.2.2.1, x.2.2.2.1.2.2.2.2.2.1, x.2.2.2.1.2.2.2.2.2.2.1, x.2.2.2.1.2.2.2.2.2.2.2.1, x.2.2.2.1.2.2.2.2.2.2.2.2.1, x.2.2.2.1.2.2.2.2.2.2.2.2.2.1, x.2.2.2.1.2.2.2.2.2.2.2.2.2.2.1, x.2.2.2.1.2.2.2.2.2.2.2.2.2.2.2.1, x.2.2.2.1.2.2.2.2.2.2.2.2.2.2.2.2.1, x.2.2.2.1.2.2.2.2.2.2.2.2.2.2.2.2.2.1, x.2.2.2.1.2.2.2.2.2.2.2.2.2.2.2.2.2.2.1, x.2.2.2.1.2.2.2.2.2.2.2.2.2.2.2.2.2.2.2.1, x.2.2.2.1.2.2.2.2.2.2.2.2.2.2.2.2.2.2.2.2.1, x.2.2.2.1.2.2.2.2.2.2.2.2.2.2.2.2.2.2.2.2.2.1, x.2.2.2.1.2.2.2.2.2.2.2.2.2.2.2.2.2.2.2.2.2.2.1, x.2.2.2.1.2.2.2.2.2.2.2.2.2.2.2.2.2.2.2.2.2.2.2.1, x.2.2.2.1.2.2.2.2.2.2.2.2.2.2.2.2.2.2.2.2.2.2.2.2.1, x.2.2.2.1.2.2.2.2.2.2.2.2.2.2.2.2.2.2.2.2.2.2.2.2.2.1, x.2.2.2.1.2.2.2.2.2.2.2.2.2.2.2.2.2.2.2.2.2.2.2.2.2.2.1, x.2.2.2.1.2.2.2.2.2.2.2.2.2.2.2.2.2.2.2.2.2.2.2.2.2.2.2.1, x.2.2.2.1.2.2.2.2.2.2.2.2.2.2.2.2.2.2.2.2.2.2.2.2.2.2.2.2.1, ())) with | some y1 => (k y1) | none => none)
abbrev zCq (N : Nat) (x : qL × Int × ByteArray × RT0 × Int) : Option (qL × Int) := (zeX N).d x
theorem ztL (N : Nat) : Zd (zeX N).t := by
 intro x α β k k' r r' h h1
 revert h
 dsimp only [zeX]
 (repeat' (first | (with_reducible refine ze ?_ ?_) | split)) <;> intro h <;> first | exact h1 _ h | cases h
theorem zq3 (N : Nat) : Zf (zn qP) (zDG N) zvK (lam N []) Tryd.f22 (zeX N) := fun x => by kernel_rfl
theorem zyA (N : Nat) (a : List AV) (b : qL) (x : (zeX N).X) (h : (zeX N).pat a b = some x) : a = (zeX N).args x /\ b = (zeX N).bs x := by
 obtain ⟨v1, c2, rfl, g0⟩ := zb (show zk _ _ = some x from h)
 obtain ⟨c3, rfl, g1⟩ := zS g0; clear g0
 obtain ⟨c4, c5, rfl, g2⟩ := zb g1; clear g1
 obtain ⟨a0, rfl, g3⟩ := zq g2; clear g2
 obtain ⟨rfl, g4⟩ := zg g3; clear g3
 obtain ⟨v6, c7, rfl, g5⟩ := zb g4; clear g4
 obtain ⟨a1, rfl, g6⟩ := zG g5; clear g5
 obtain ⟨v8, c9, rfl, g7⟩ := zb g6; clear g6
 obtain ⟨a2, rfl, g8⟩ := zbs g7; clear g7
 obtain ⟨v10, c11, rfl, g9⟩ := zb g8; clear g8
 obtain ⟨a3, rfl, g10⟩ := zda g9; clear g9
 obtain ⟨v12, c13, rfl, g11⟩ := zb g10; clear g10
 obtain ⟨a4, rfl, g12⟩ := zG g11; clear g11
 obtain ⟨rfl, g13⟩ := zg g12; clear g12
 obtain ⟨rfl, g14⟩ := zg g13; clear g13
 clear h
 cases g14
 exact ⟨rfl, rfl⟩
def zDE (N : Nat) : Ent qP := zx (zd qP) (zi _) zl 22 Tryd.f22 Tryd.func22 rfl zvK (lam N []) (zm (l := []) an (by kernel_rfl)) (zeX N) (fun _ => ⟨rfl, rfl⟩) (zq3 N) (zyA N) (ztL N)
def zb2 : Nat -> Keep × Keep := anL [(8, ⟨[12, 13], [], [], [(0, 1), (1, 1)], [], [], [], [], false, none, []⟩, qK [4] [] [])]
def zzO (N : Nat) : GamK := gam (P := qP) []
def zdB (N : Nat) : LSpec where
 X := qL × qL × Int × Int
 Y := (Bool) ⊕ (Unit)
 p := fun s => rdS 26 0 [(0, .lst 1), (1, .lst 1), (12, .int .i64), (13, .int .i64)] [] s fun ⟨a0, a1, a2, a3, _⟩ _ => (a0, a1, a2, a3)
 st := fun u8 => mkS 26 [(0, (AV.list 1 u8.1 none)), (1, (AV.list 1 u8.2.1 none)), (12, (qI u8.2.2.1)), (13, (qI u8.2.2.2))] [] (zb2 8).1.toks 0
 out := fun y => match y with
  | .inl y => (.ret, mkS 26 [(4, (AV.v (.bool y)))] [] (zb2 8).2.toks 0)
  | .inr y => (.exit 0, mkS 26 [] [] (zb2 8).2.toks 0)
 b := fun u8 α kn ke => (match (decide (u8.2.2.2 < u8.2.2.1)) with | true => (if 0 <= u8.2.2.2 then (match u8.1[u8.2.2.2.toNat]? with | some c1 => (match c1[0]? with | some x2 => (match x2 with | .v (.int q4 n3) => (if q4 = .i64 then (if 0 <= u8.2.2.2 then (match u8.2.1[u8.2.2.2.toNat]? with | some c5 => (match c5[0]? with | some x6 => (match x6 with | .v (.int q8 n7) => (if q8 = .i64 then (match (n3 != n7) with | true => (ke (.inl false)) | false => (kn (u8.1, u8.2.1, u8.2.2.1, (i64 (u8.2.2.2 + 1))))) else none) | _ => none) | none => none) | none => none) else none) else none) | _ => none) | none => none) | none => none) else none) | false => (ke (.inr ())))
abbrev zAo (N : Nat) (x : qL × qL × Int × Int) : Option ((Bool) ⊕ (Unit)) := (zdB N).L N x
def zmp (N : Nat) : FSpec where
 X := qL × qL
 Y := Bool
 ash := [[some 1], [some 1]]
 S := ⟨[[none]], [], [], [], []⟩
 pat := fun a b => rdA [.lst 1, .lst 1] [] a b fun ⟨a0, a1, _⟩ _ => (a0, a1)
 args := fun x => [(AV.list 1 x.1 none), (AV.list 1 x.2 none)]
 ret := fun y => ⟨(AV.v (.bool y)), [], none, [], [], [], none⟩
 t := fun x α k => (match ((x.1.length : Int) != (x.2.length : Int)) with | true => (k false) | false => (match zAo N (x.1, x.2, (x.1.length : Int), 0) with | some y9 => (match y9 with | .inl z10 => (k z10) | .inr z11 => (k true)) | none => none))
abbrev zzR (N : Nat) (x : qL × qL) : Option (Bool) := (zmp N).d x
def zgJ (N : Nat) : List (Nat × LSpec) := [(8, zdB N)]
def zsg : Code := Tryd.f42.body.getD .skip
theorem zrZ (N : Nat) : Par (zdB N).b := by
 intro x α β kn ke kn' ke' r r' h h1 h2
 revert h
 dsimp only [zdB]
 (repeat' (first | (with_reducible refine ze ?_ ?_) | split)) <;> intro h <;> first | exact h1 _ h | exact h2 _ h | cases h
theorem zmU (N : Nat) : jc (zn qP) (zzO N) zb2 N (zgJ N) 8 zsg (zdB N) := fun x α kn ke => by kernel_rfl
theorem zpr (N : Nat) : ZE qP zb2 N (zgJ N) 8 (zc 8 zsg) :=
 zD (zd qP) (zi _) zl zb2 N (zgJ N) 8 zsg (l := []) (by kernel_rfl) (by kernel_rfl) an (zdB N) rfl (fun s x hc h => by dsimp only [zdB] at h; exact zI hc h (fun _ _ => rfl) rfl rfl rfl) (fun _ => rfl) (zmU N) (zrZ N)
theorem zrU (N : Nat) : Zd (zmp N).t := by
 intro x α β k k' r r' h h1
 revert h
 dsimp only [zmp]
 (repeat' (first | (with_reducible refine ze ?_ ?_) | split)) <;> intro h <;> first | exact h1 _ h | cases h
theorem zto (N : Nat) : Zf (zn qP) (zzO N) zb2 (lam N (zgJ N)) Tryd.f42 (zmp N) := fun x => by kernel_rfl
def zCF (N : Nat) : Ent qP := zx (zd qP) (zi _) zl 42 Tryd.f42 Tryd.func42 rfl zb2 (lam N (zgJ N)) (zm (l := [(8, zc 8 zsg)]) (al (zpr N) an) (by kernel_rfl)) (zmp N) (fun _ => ⟨rfl, rfl⟩) (zto N) (fun _ _ _ h => zu h (fun _ _ => rfl) (fun _ _ => rfl)) (zrU N)
def zvN : Nat -> Keep × Keep := anL []
def zDZ (N : Nat) : GamK := gam (P := qP) [zC7 N, zAa N, zDE N, zCF N, zDW N]
def zoY (N : Nat) : FSpec where
 X := Unit
 Y := Bool
 ash := []
 S := ⟨[[none]], [], [], [], []⟩
 pat := fun a b => rdA [] [] a b fun _ _ => ()
 args := fun x => []
 ret := fun y => ⟨(AV.v (.bool y)), [], none, [], [], [], none⟩
 t := fun x α k => (match zzu N () with | some y1 => (match zh8 N (([] : qL), [(zB y1)], 5) with | some y2 => (match zh8 N (y2.1, ([] : qL), 6) with | some y3 => (match zzu N () with | some y4 => (match zCq N (y2.1, 0, (⟨#[97, 110, 110]⟩ : ByteArray), y4, 6) with | some y5 => (match zh8 N (y5.1, ([] : qL), 7) with | some y6 => (match (y2.2.2 == 0) with | true => (match zzR N (y2.2.1, [[(AV.v (.int .i64 0))]]) with | some y7 => (match y7 with | true => (match (y3.2.2 == 0) with | true => (match zzR N (y3.2.1, [[(AV.v (.int .i64 0))]]) with | some y8 => (match y8 with | true => (match zxS N (y3.1, 6) with | some y9 => (match ((y9.length : Int) == 0) with | true => (match zxS N (y3.1, 5) with | some y10 => (match ((y10.length : Int) == 1) with | true => (match (y5.2 == 0) with | true => (match (y6.2.2 == 0) with | true => (match ((y6.2.1.length : Int) == 0) with | true => (match zxS N (y6.1, 7) with | some y11 => (k ((y11.length : Int) == 1)) | none => none) | false => (k false)) | false => (k false)) | false => (k false)) | false => (k false)) | none => none) | false => (k false)) | none => none) | false => (k false)) | none => none) | false => (k false)) | false => (k false)) | none => none) | false => (k false)) | none => none) | none => none) | none => none) | none => none) | none => none) | none => none)
abbrev zBC (N : Nat) (x : Unit) : Option (Bool) := (zoY N).d x
theorem zuK (N : Nat) : Zd (zoY N).t := by
 intro x α β k k' r r' h h1
 revert h
 dsimp only [zoY]
 (repeat' (first | (with_reducible refine ze ?_ ?_) | split)) <;> intro h <;> first | exact h1 _ h | cases h
theorem zq6 (N : Nat) : Zf (zn qP) (zDZ N) zvN (lam N []) Tryd.f12 (zoY N) := fun x => by kernel_rfl
def zCW (N : Nat) : Ent qP := zx (zd qP) (zi _) zl 12 Tryd.f12 Tryd.func12 rfl zvN (lam N []) (zm (l := []) an (by kernel_rfl)) (zoY N) (fun _ => ⟨rfl, rfl⟩) (zq6 N) (fun _ _ _ h => zu h (fun _ _ => rfl) (fun _ _ => rfl)) (zuK N)
end
end Go.Proofs.YthdgnfcbehcplaaDoor
end
section
namespace Go.Proofs.YthdgnfcbehcplaaDoor
noncomputable section
open Go.RowKit
set_option maxRecDepth 4000
set_option maxHeartbeats 4000000
def zAL : Nat -> Keep × Keep := anL []
def F6_g (N : Nat) : GamK := gam (P := qP) []
def zzb (N : Nat) : FSpec where
 X := qL
 Y := qL × Int
 ash := [[some 1]]
 S := ⟨[[none]], [], [some 1, none], [], []⟩
 pat := fun a b => rdA [.lst 1] [] a b fun ⟨a0, _⟩ _ => a0
 args := fun x => [(AV.list 1 x none)]
 ret := fun y => ⟨(AV.ptr 0 0), [], some [(AV.list 1 y.1 none), (AV.v (.int .i64 y.2))], [], [], [], none⟩
 t := fun x α k => (if 0 <= (if 2000 < (x.length : Int) then 2000 else (x.length : Int)) /\ (if 2000 < (x.length : Int) then 2000 else (x.length : Int)) <= x.length then (k ((x.take (if 2000 < (x.length : Int) then 2000 else (x.length : Int)).toNat), 0)) else none)
abbrev zDQ (N : Nat) (x : qL) : Option (qL × Int) := (zzb N).d x
theorem zyh (N : Nat) : Zd (zzb N).t := by
 intro x α β k k' r r' h h1
 revert h
 dsimp only [zzb]
 (repeat' (first | (with_reducible refine ze ?_ ?_) | split)) <;> intro h <;> first | exact h1 _ h | cases h
theorem zxL (N : Nat) : Zf (zn qP) (F6_g N) zAL (lam N []) Tryd.f6 (zzb N) := fun x => by kernel_rfl
def F6_e (N : Nat) : Ent qP := zx (zd qP) (zi _) zl 6 Tryd.f6 Tryd.func6 rfl zAL (lam N []) (zm (l := []) an (by kernel_rfl)) (zzb N) (fun _ => ⟨rfl, rfl⟩) (zxL N) (fun _ _ _ h => zu h (fun _ _ => rfl) (fun _ _ => rfl)) (zyh N)
def zmH : Nat -> Keep × Keep := anL []
def zBc (N : Nat) : GamK := gam (P := qP) []
def zhl (N : Nat) : FSpec where
 X := qL × Int
 Y := Int × qL × Int
 ash := [[none]]
 bsh := [[some 1, none]]
 S := ⟨[[none]], [[some 1, none]], [], [], []⟩
 pat := fun a b => rdA [.ptr 0 0] [.cells [.lst 1, .int .i64]] a b fun ⟨_, _⟩ ⟨⟨a0, a1, _⟩, _⟩ => (a0, a1)
 args := fun x => [(AV.ptr 0 0)]
 bs := fun x => [[(AV.list 1 x.1 none), (AV.v (.int .i64 x.2))]]
 ret := fun y => ⟨(AV.v (.int .i64 y.1)), [[(AV.list 1 y.2.1 none), (AV.v (.int .i64 y.2.2))]], none, [], [], [], none⟩
 t := fun x α k => (match (decide (x.2 >= (x.1.length : Int))) with | true => (k (0, x)) | false => (if 0 <= (i64 ((i64 (x.2 + 1)) - 1)) then (match x.1[(i64 ((i64 (x.2 + 1)) - 1)).toNat]? with | some c1 => (match c1[0]? with | some x2 => (match x2 with | .v (.int q4 n3) => (if q4 = .i64 then (k (n3, x.1, (i64 (x.2 + 1)))) else none) | _ => none) | none => none) | none => none) else none))
abbrev zA7 (N : Nat) (x : qL × Int) : Option (Int × qL × Int) := (zhl N).d x
theorem znh (N : Nat) : Zd (zhl N).t := by
 intro x α β k k' r r' h h1
 revert h
 dsimp only [zhl]
 (repeat' (first | (with_reducible refine ze ?_ ?_) | split)) <;> intro h <;> first | exact h1 _ h | cases h
theorem zlZ (N : Nat) : Zf (zn qP) (zBc N) zmH (lam N []) Tryd.f32 (zhl N) := fun x => by kernel_rfl
def zAc (N : Nat) : Ent qP := zx (zd qP) (zi _) zl 32 Tryd.f32 Tryd.func32 rfl zmH (lam N []) (zm (l := []) an (by kernel_rfl)) (zhl N) (fun _ => ⟨rfl, rfl⟩) (zlZ N) (fun _ _ _ h => zu h (fun _ _ => rfl) (fun _ _ => rfl)) (znh N)
def zww : Nat -> Keep × Keep := anL []
def zCi (N : Nat) : GamK := gam (P := qP) [zAc N, zAz N]
def zoN (N : Nat) : FSpec where
 X := Int × qL × Int
 Y := Int × qL × Int
 ash := [[none], [none]]
 bsh := [[some 1, none]]
 S := ⟨[[none]], [[some 1, none]], [], [], []⟩
 pat := fun a b => rdA [.ptr 0 0, .int .i64] [.cells [.lst 1, .int .i64]] a b fun ⟨_, a0, _⟩ ⟨⟨a1, a2, _⟩, _⟩ => (a0, a1, a2)
 args := fun x => [(AV.ptr 0 0), (AV.v (.int .i64 x.1))]
 bs := fun x => [[(AV.list 1 x.2.1 none), (AV.v (.int .i64 x.2.2))]]
 ret := fun y => ⟨(AV.v (.int .i64 y.1)), [[(AV.list 1 y.2.1 none), (AV.v (.int .i64 y.2.2))]], none, [], [], [], none⟩
 t := fun x α k => (match zA7 N x.2 with | some y1 => (match znd N (y1.1, x.1) with | some y2 => (k (y2, y1.2)) | none => none) | none => none)
abbrev Je (N : Nat) (x : Int × qL × Int) : Option (Int × qL × Int) := (zoN N).d x
theorem zsG (N : Nat) : Zd (zoN N).t := by
 intro x α β k k' r r' h h1
 revert h
 dsimp only [zoN]
 (repeat' (first | (with_reducible refine ze ?_ ?_) | split)) <;> intro h <;> first | exact h1 _ h | cases h
theorem zui (N : Nat) : Zf (zn qP) (zCi N) zww (lam N []) Tryd.f8 (zoN N) := fun x => by kernel_rfl
def zic (N : Nat) : Ent qP := zx (zd qP) (zi _) zl 8 Tryd.f8 Tryd.func8 rfl zww (lam N []) (zm (l := []) an (by kernel_rfl)) (zoN N) (fun _ => ⟨rfl, rfl⟩) (zui N) (fun _ _ _ h => zu h (fun _ _ => rfl) (fun _ _ => rfl)) (zsG N)
def zpj : Nat -> Keep × Keep := anL []
def zzB (N : Nat) : GamK := gam (P := qP) [zic N]
def zgE (N : Nat) : FSpec where
 X := Int × qL × Int
 Y := Int × Int × Int × qL × Int
 ash := [[none], [none]]
 bsh := [[some 1, none]]
 S := ⟨[[none, none, none]], [[some 1, none]], [], [], []⟩
 pat := fun a b => rdA [.ptr 0 0, .int .i64] [.cells [.lst 1, .int .i64]] a b fun ⟨_, a0, _⟩ ⟨⟨a1, a2, _⟩, _⟩ => (a0, a1, a2)
 args := fun x => [(AV.ptr 0 0), (AV.v (.int .i64 x.1))]
 bs := fun x => [[(AV.list 1 x.2.1 none), (AV.v (.int .i64 x.2.2))]]
 ret := fun y => ⟨(AV.agg [(AV.v (.int .i64 y.1)), (AV.v (.int .i64 y.2.1)), (AV.v (.int .i64 y.2.2.1))]), [[(AV.list 1 y.2.2.2.1 none), (AV.v (.int .i64 y.2.2.2.2))]], none, [], [], [], none⟩
 t := fun x α k => (match Je N ((i64 ((i64 (2 * x.1)) + 1)), x.2) with | some y1 => (match Je N ((i64 ((i64 (2 * x.1)) + 1)), y1.2) with | some y2 => (match Je N ((i64 (x.1 + 1)), y2.2) with | some y3 => (k ((i64 (y1.1 - x.1)), (i64 (y2.1 - x.1)), y3)) | none => none) | none => none) | none => none)
abbrev zAN (N : Nat) (x : Int × qL × Int) : Option (Int × Int × Int × qL × Int) := (zgE N).d x
theorem zmu (N : Nat) : Zd (zgE N).t := by
 intro x α β k k' r r' h h1
 revert h
 dsimp only [zgE]
 (repeat' (first | (with_reducible refine ze ?_ ?_) | split)) <;> intro h <;> first | exact h1 _ h | cases h
theorem zlC (N : Nat) : Zf (zn qP) (zzB N) zpj (lam N []) Tryd.f51 (zgE N) := fun x => by kernel_rfl
def zBt (N : Nat) : Ent qP := zx (zd qP) (zi _) zl 51 Tryd.f51 Tryd.func51 rfl zpj (lam N []) (zm (l := []) an (by kernel_rfl)) (zgE N) (fun _ => ⟨rfl, rfl⟩) (zlC N) (fun _ _ _ h => zu h (fun _ _ => rfl) (fun _ _ => rfl)) (zmu N)
def znV : Nat -> Keep × Keep := anL []
def zBH (N : Nat) : GamK := gam (P := qP) [zic N]
def zgZ (N : Nat) : FSpec where
 X := qL × qL × Int
 Y := Int × qL × Int
 ash := [[none], [some 1]]
 bsh := [[some 1, none]]
 S := ⟨[[none]], [[some 1, none]], [], [], []⟩
 pat := fun a b => rdA [.ptr 0 0, .lst 1] [.cells [.lst 1, .int .i64]] a b fun ⟨_, a0, _⟩ ⟨⟨a1, a2, _⟩, _⟩ => (a0, a1, a2)
 args := fun x => [(AV.ptr 0 0), (AV.list 1 x.1 none)]
 bs := fun x => [[(AV.list 1 x.2.1 none), (AV.v (.int .i64 x.2.2))]]
 ret := fun y => ⟨(AV.v (.int .i64 y.1)), [[(AV.list 1 y.2.1 none), (AV.v (.int .i64 y.2.2))]], none, [], [], [], none⟩
 t := fun x α k => (match Je N ((x.1.length : Int), x.2) with | some y1 => (if 0 <= y1.1 then (match x.1[y1.1.toNat]? with | some c2 => (match c2[0]? with | some x3 => (match x3 with | .v (.int q5 n4) => (if q5 = .i64 then (k (n4, y1.2)) else none) | _ => none) | none => none) | none => none) else none) | none => none)
abbrev zAH (N : Nat) (x : qL × qL × Int) : Option (Int × qL × Int) := (zgZ N).d x
theorem zng (N : Nat) : Zd (zgZ N).t := by
 intro x α β k k' r r' h h1
 revert h
 dsimp only [zgZ]
 (repeat' (first | (with_reducible refine ze ?_ ?_) | split)) <;> intro h <;> first | exact h1 _ h | cases h
theorem zox (N : Nat) : Zf (zn qP) (zBH N) znV (lam N []) Tryd.f52 (zgZ N) := fun x => by kernel_rfl
def zzy (N : Nat) : Ent qP := zx (zd qP) (zi _) zl 52 Tryd.f52 Tryd.func52 rfl znV (lam N []) (zm (l := []) an (by kernel_rfl)) (zgZ N) (fun _ => ⟨rfl, rfl⟩) (zox N) (fun _ _ _ h => zu h (fun _ _ => rfl) (fun _ _ => rfl)) (zng N)
def zaH : Nat -> Keep × Keep := anL [(6, ⟨[0, 1, 4, 5, 6, 7], [], [0, 4, 5], [], [((4, 9), 9)], [], [((5, 9), 9)], [], false, none, []⟩, ⟨[0, 4, 5, 6], [], [0, 4, 5], [], [((4, 9), 9)], [], [((5, 9), 9)], [], false, none, []⟩)]
def zwr (N : Nat) : GamK := gam (P := qP) [zic N, zzq N, zBt N, zzy N]
def zaz (N : Nat) : LSpec where
 X := Int × Int × Int × qL × Int × RT8 × zp2 × qA
 Y := (Int × qL × Int × RT8 × zp2 × qA)
 p := fun s => rdS 98 1 [(0, .ptr 0 0), (1, .int .i64), (4, .ptr 4 0), (5, .ptr 5 0), (6, .int .i64), (7, .int .i64)] [(0, .cells [.lst 1, .int .i64]), (4, .row RK8), (5, .row zCy), (2020489, .tt)] s fun ⟨_, a0, _, _, a1, a2, _⟩ ⟨⟨a3, a4, _⟩, a5, a6, a7, _⟩ => (a0, a1, a2, a3, a4, a5, a6, a7)
 st := fun u6 => mkS 98 [(0, (AV.ptr 0 0)), (1, (qI u6.1)), (4, (AV.ptr 4 0)), (5, (AV.ptr 5 0)), (6, (qI u6.2.1)), (7, (qI u6.2.2.1))] [(0, [(AV.list 1 u6.2.2.2.1 none), (qI u6.2.2.2.2.1)]), (4, (zBT u6.2.2.2.2.2.1)), (5, (zqu u6.2.2.2.2.2.2.1)), (2020489, u6.2.2.2.2.2.2.2)] (zaH 6).1.toks 1
 out := fun y => (.exit 0, mkS 98 [(0, (AV.ptr 0 0)), (4, (AV.ptr 4 0)), (5, (AV.ptr 5 0)), (6, (qI y.1))] [(0, [(AV.list 1 y.2.1 none), (qI y.2.2.1)]), (4, (zBT y.2.2.2.1)), (5, (zqu y.2.2.2.2.1)), (2020489, y.2.2.2.2.2)] (zaH 6).2.toks 1)
 b := fun u6 α kn ke => (match Je N (4, u6.2.2.2.1, u6.2.2.2.2.1) with | some y5 => (match (decide (u6.2.2.1 < (i64 (1 + y5.1)))) with | true => (match ztC N u6.2.2.1 with | some y6 => (match Je N (3, y5.2) with | some y7 => (if u6.2.2.2.2.2.2.1.2.2.2.2.2.2.2.2.2.1 * 9 <= u6.2.2.2.2.2.2.2.length /\ (u6.2.2.2.2.2.2.1.2.2.2.2.2.2.2.2.2.1 + [(zw (y6.1, y6.2.1, y6.2.2.1, y6.2.2.2.1, (i64 (u6.2.1 + (i64 (10 * u6.1)))), (i64 (u6.2.1 + (i64 (10 * u6.1)))), (i64 ((i64 (u6.2.1 + (i64 (10 * u6.1)))) + y7.1)), u6.1, 0, ()))].length) * 104 <= zh then (kn (u6.1, u6.2.1, (i64 (u6.2.2.1 + 1)), y7.2.1, y7.2.2, u6.2.2.2.2.2.1, (u6.2.2.2.2.2.2.1.1, u6.2.2.2.2.2.2.1.2.1, u6.2.2.2.2.2.2.1.2.2.1, u6.2.2.2.2.2.2.1.2.2.2.1, u6.2.2.2.2.2.2.1.2.2.2.2.1, u6.2.2.2.2.2.2.1.2.2.2.2.2.1, u6.2.2.2.2.2.2.1.2.2.2.2.2.2.1, u6.2.2.2.2.2.2.1.2.2.2.2.2.2.2.1, u6.2.2.2.2.2.2.1.2.2.2.2.2.2.2.2.1, (u6.2.2.2.2.2.2.1.2.2.2.2.2.2.2.2.2.1 + [(zw (y6.1, y6.2.1, y6.2.2.1, y6.2.2.2.1, (i64 (u6.2.1 + (i64 (10 * u6.1)))), (i64 (u6.2.1 + (i64 (10 * u6.1)))), (i64 ((i64 (u6.2.1 + (i64 (10 * u6.1)))) + y7.1)), u6.1, 0, ()))].length), u6.2.2.2.2.2.2.1.2.2.2.2.2.2.2.2.2.2), ((u6.2.2.2.2.2.2.2.take (u6.2.2.2.2.2.2.1.2.2.2.2.2.2.2.2.2.1 * 9) ++ [(zw (y6.1, y6.2.1, y6.2.2.1, y6.2.2.2.1, (i64 (u6.2.1 + (i64 (10 * u6.1)))), (i64 (u6.2.1 + (i64 (10 * u6.1)))), (i64 ((i64 (u6.2.1 + (i64 (10 * u6.1)))) + y7.1)), u6.1, 0, ()))].flatten).map dat0))) else none) | none => none) | none => none) | false => (ke (u6.2.1, y5.2.1, y5.2.2, u6.2.2.2.2.2.1, u6.2.2.2.2.2.2.1, (u6.2.2.2.2.2.2.2.map dat0)))) | none => none)
abbrev zyy (N : Nat) (x : Int × Int × Int × qL × Int × RT8 × zp2 × qA) : Option ((Int × qL × Int × RT8 × zp2 × qA)) := (zaz N).L N x
def zgP (N : Nat) : FSpec where
 X := Int × qL × Int
 Y := zxi × qL × Int × qA
 ash := [[none], [none]]
 bsh := [[some 1, none]]
 S := ⟨[[none, none, none, none, none, none, none, none, none, some 9, none, none, none, none, none, none, none, none, none, none, none, none, none, none, none]], [[some 1, none]], [], [], []⟩
 bm := true
 pat := fun a b => rdA [.ptr 0 0, .int .i64] [.cells [.lst 1, .int .i64]] a b fun ⟨_, a0, _⟩ ⟨⟨a1, a2, _⟩, _⟩ => (a0, a1, a2)
 args := fun x => [(AV.ptr 0 0), (AV.v (.int .i64 x.1))]
 bs := fun x => [[(AV.list 1 x.2.1 none), (AV.v (.int .i64 x.2.2))]]
 ret := fun y => ⟨(AV.agg (zBz y.1)), [[(AV.list 1 y.2.1 none), (AV.v (.int .i64 y.2.2.1))]], some y.2.2.2, [], [], [], none⟩
 t := fun x α k => (match Je N (300, x.2) with | some y1 => (match zyy N (x.1, (i64 (1000 + y1.1)), 0, y1.2.1, y1.2.2, ((⟨#[]⟩ : ByteArray), (⟨#[]⟩ : ByteArray), (⟨#[]⟩ : ByteArray), (⟨#[]⟩ : ByteArray), 0, 0, 0, 0, 0, ([] : qL), 0, 0, 0, 0, 0, 0, 0, 0, 0, 0, 0, 0, 0, 0, 0, ()), ((⟨#[]⟩ : ByteArray), (⟨#[]⟩ : ByteArray), (⟨#[]⟩ : ByteArray), (⟨#[]⟩ : ByteArray), 0, 0, 0, 0, 0, 0, 0, 0, 0, 0, 0, 0, 0, 0, 0, 0, 0, 0, 0, 0, 0, ()), ([] : List AV)) with | some y8 => (if 0 <= (0 : Int) /\ (0 : Int) < (y8.2.2.2.2.1.2.2.2.2.2.2.2.2.2.1 : Int) then (match Jt (y8.2.2.2.2.2.drop ((0 + (0 : Int).toNat) * 9)) with | some e9 => (match zAN N (20, y8.2.1, y8.2.2.1) with | some y10 => (match Je N (40, y10.2.2.2) with | some y11 => (match zAH N ([[(AV.v (.int .i64 0))], [(AV.v (.int .i64 0))], [(AV.v (.int .i64 5))], [(AV.v (.int .i64 500))]], y11.2) with | some y12 => (match Je N (3, y12.2) with | some y13 => (match (decide (y13.1 > 0)) with | true => (match Je N (400, y13.2) with | some y14 => (match Je N (60, y14.2) with | some y15 => (k ((e9.1, e9.2.1, e9.2.2.1, e9.2.2.2.1, e9.2.2.2.2.1, e9.2.2.2.2.2.1, e9.2.2.2.2.2.2.1, e9.2.2.2.2.2.2.2.1, e9.2.2.2.2.2.2.2.2.1, y8.2.2.2.2.1.2.2.2.2.2.2.2.2.2.1, y10.1, y10.2.1, y10.2.2.1, (i64 (y8.1 - y11.1)), y12.1, 0, y10.1, y10.2.1, y10.2.2.1, y10.1, y10.2.1, y10.2.2.1, y14.1, (i64 (y14.1 + y15.1)), y13.1, ()), y15.2.1, y15.2.2, (y8.2.2.2.2.2.map dat0))) | none => none) | none => none) | false => (k ((e9.1, e9.2.1, e9.2.2.1, e9.2.2.2.1, e9.2.2.2.2.1, e9.2.2.2.2.2.1, e9.2.2.2.2.2.2.1, e9.2.2.2.2.2.2.2.1, e9.2.2.2.2.2.2.2.2.1, y8.2.2.2.2.1.2.2.2.2.2.2.2.2.2.1, y10.1, y10.2.1, y10.2.2.1, (i64 (y8.1 - y11.1)), y12.1, 0, y10.1, y10.2.1, y10.2.2.1, y10.1, y10.2.1, y10.2.2.1, y8.2.2.2.2.1.2.2.2.2.2.2.2.2.2.2.2.2.2.2.2.2.2.2.2.2.2.2.1, y8.2.2.2.2.1.2.2.2.2.2.2.2.2.2.2.2.2.2.2.2.2.2.2.2.2.2.2.2.1, y13.1, ()), y13.2.1, y13.2.2, (y8.2.2.2.2.2.map dat0)))) | none => none) | none => none) | none => none) | none => none) | none => none) else none) | none => none) | none => none)
abbrev zAu (N : Nat) (x : Int × qL × Int) : Option (zxi × qL × Int × qA) := (zgP N).d x
def zcZ (N : Nat) : List (Nat × LSpec) := [(6, zaz N)]
def ziO : Code := Tryd.f20.body.getD .skip
theorem zoO (N : Nat) : Par (zaz N).b := by
 intro x α β kn ke kn' ke' r r' h h1 h2
 revert h
 dsimp only [zaz]
 (repeat' (first | (with_reducible refine ze ?_ ?_) | split)) <;> intro h <;> first | exact h1 _ h | exact h2 _ h | cases h
theorem zkH (N : Nat) : jc (JL qP [41]) (zwr N) zaH N (zcZ N) 6 ziO (zaz N) := fun x α kn ke => by kernel_rfl
theorem zkZ (N : Nat) : ZE qP zaH N (zcZ N) 6 (zc 6 ziO) :=
 zD (zK qP [41]) (zi _) zl zaH N (zcZ N) 6 ziO (l := []) (by kernel_rfl) (by kernel_rfl) an (zaz N) rfl (fun s x hc h => by dsimp only [zaz] at h; exact zI hc h (fun _ _ => rfl) rfl rfl rfl) (fun _ => rfl) (zkH N) (zoO N)
theorem zl4 (N : Nat) : Zd (zgP N).t := by
 intro x α β k k' r r' h h1
 revert h
 dsimp only [zgP]
 (repeat' (first | (with_reducible refine ze ?_ ?_) | split)) <;> intro h <;> first | exact h1 _ h | cases h
theorem znB (N : Nat) : Zf (JL qP [41]) (zwr N) zaH (lam N (zcZ N)) Tryd.f20 (zgP N) := fun x => by kernel_rfl
def zBl (N : Nat) : Ent qP := zx (zK qP [41]) (zi _) zl 20 Tryd.f20 Tryd.func20 rfl zaH (lam N (zcZ N)) (zm (l := [(6, zc 6 ziO)]) (al (zkZ N) an) (by kernel_rfl)) (zgP N) (fun _ => ⟨rfl, rfl⟩) (znB N) (fun _ _ _ h => zu h (fun _ _ => rfl) (fun _ _ => rfl)) (zl4 N)
def JC : Nat -> Keep × Keep := anF [(5, ⟨[0, 1, 6], [], [0], [], [], [(5, 25)], [], [], false, none, []⟩, ⟨[], [], [0], [], [], [(5, 25)], [], [], false, none, []⟩), (18, ⟨[0, 1, 5, 6, 7, 23, 24], [], [0, 7, 19, 1000005], [], [], [], [], [19, 1000005], false, none, []⟩, ⟨[0, 1, 5, 6, 7], [], [0, 7, 19, 1000005], [], [], [], [], [19, 1000005], false, none, []⟩)] [(100015, ([], [((7, 9), 9)])), (100016, ([5], []))]
def zwZ (N : Nat) : GamK := gam (P := qP) [zic N, zBl N]
def zat (N : Nat) : LSpec where
 X := Int × Nat × Int × Int × Int × qL × Int × zqq × qA × qA
 Y := (Int × Nat × Int × qL × Int × zqq × qA × qA)
 p := fun s => rdS 86 1 [(0, .ptr 0 0), (1, .int .i64), (5, .vs0 1000005 25), (6, .int .i64), (7, .ptr 7 0), (23, .int .i64), (24, .int .i64)] [(0, .cells [.lst 1, .int .i64]), (7, .row zDn), (19, .tt), (1000005, .tt)] s fun ⟨_, a0, a1, a2, _, a3, a4, _⟩ ⟨⟨a5, a6, _⟩, a7, a8, a9, _⟩ => (a0, a1, a2, a3, a4, a5, a6, a7, a8, a9)
 st := fun u18 => mkS 86 [(0, (AV.ptr 0 0)), (1, (qI u18.1)), (5, (AV.vs 1000005 0 u18.2.1 25)), (6, (qI u18.2.2.1)), (7, (AV.ptr 7 0)), (23, (qI u18.2.2.2.1)), (24, (qI u18.2.2.2.2.1))] [(0, [(AV.list 1 u18.2.2.2.2.2.1 none), (qI u18.2.2.2.2.2.2.1)]), (7, (zq8 u18.2.2.2.2.2.2.2.1)), (19, u18.2.2.2.2.2.2.2.2.1), (1000005, u18.2.2.2.2.2.2.2.2.2)] (JC 18).1.toks 1
 out := fun y => (.exit 2, mkS 86 [(0, (AV.ptr 0 0)), (1, (qI y.1)), (5, (AV.vs 1000005 0 y.2.1 25)), (6, (qI y.2.2.1)), (7, (AV.ptr 7 0))] [(0, [(AV.list 1 y.2.2.2.1 none), (qI y.2.2.2.2.1)]), (7, (zq8 y.2.2.2.2.2.1)), (19, y.2.2.2.2.2.2.1), (1000005, y.2.2.2.2.2.2.2)] (JC 18).2.toks 1)
 b := fun u18 α kn ke => (match (decide (u18.2.2.2.2.1 < u18.2.2.2.1)) with | true => (if 0 <= u18.2.2.2.2.1 /\ u18.2.2.2.2.1 < (u18.2.2.2.2.2.2.2.1.2.2.2.2.2.2.2.2.2.1 : Int) then (if (((0 + u18.2.2.2.2.1.toNat) * 9) + 4) + 1 <= u18.2.2.2.2.2.2.2.2.1.length then (if (((0 + u18.2.2.2.2.1.toNat) * 9) + 5) + 1 <= (splice u18.2.2.2.2.2.2.2.2.1 (((0 + u18.2.2.2.2.1.toNat) * 9) + 4) [(AV.v (.int .i64 (i64 ((i64 (1000 + (i64 (400 * u18.2.2.1)))) + u18.2.2.2.2.1))))]).length then (if (((0 + u18.2.2.2.2.1.toNat) * 9) + 6) + 1 <= (splice (splice u18.2.2.2.2.2.2.2.2.1 (((0 + u18.2.2.2.2.1.toNat) * 9) + 4) [(AV.v (.int .i64 (i64 ((i64 (1000 + (i64 (400 * u18.2.2.1)))) + u18.2.2.2.2.1))))]) (((0 + u18.2.2.2.2.1.toNat) * 9) + 5) [(AV.v (.int .i64 (i64 ((i64 (1000 + (i64 (400 * u18.2.2.1)))) + u18.2.2.2.2.1))))]).length then (if (((0 + u18.2.2.2.2.1.toNat) * 9) + 7) + 1 <= (splice (splice (splice u18.2.2.2.2.2.2.2.2.1 (((0 + u18.2.2.2.2.1.toNat) * 9) + 4) [(AV.v (.int .i64 (i64 ((i64 (1000 + (i64 (400 * u18.2.2.1)))) + u18.2.2.2.2.1))))]) (((0 + u18.2.2.2.2.1.toNat) * 9) + 5) [(AV.v (.int .i64 (i64 ((i64 (1000 + (i64 (400 * u18.2.2.1)))) + u18.2.2.2.2.1))))]) (((0 + u18.2.2.2.2.1.toNat) * 9) + 6) [(AV.v (.int .i64 (i64 ((i64 ((i64 (1000 + (i64 (400 * u18.2.2.1)))) + u18.2.2.2.2.1)) + 2))))]).length then (kn (u18.1, u18.2.1, u18.2.2.1, u18.2.2.2.1, (i64 (u18.2.2.2.2.1 + 1)), u18.2.2.2.2.2.1, u18.2.2.2.2.2.2.1, u18.2.2.2.2.2.2.2.1, ((splice (splice (splice (splice u18.2.2.2.2.2.2.2.2.1 (((0 + u18.2.2.2.2.1.toNat) * 9) + 4) [(AV.v (.int .i64 (i64 ((i64 (1000 + (i64 (400 * u18.2.2.1)))) + u18.2.2.2.2.1))))]) (((0 + u18.2.2.2.2.1.toNat) * 9) + 5) [(AV.v (.int .i64 (i64 ((i64 (1000 + (i64 (400 * u18.2.2.1)))) + u18.2.2.2.2.1))))]) (((0 + u18.2.2.2.2.1.toNat) * 9) + 6) [(AV.v (.int .i64 (i64 ((i64 ((i64 (1000 + (i64 (400 * u18.2.2.1)))) + u18.2.2.2.2.1)) + 2))))]) (((0 + u18.2.2.2.2.1.toNat) * 9) + 7) [(AV.v (.int .i64 7))]).map dat0), (u18.2.2.2.2.2.2.2.2.2.map dat0))) else none) else none) else none) else none) else none) | false => (ke (u18.1, u18.2.1, u18.2.2.1, u18.2.2.2.2.2.1, u18.2.2.2.2.2.2.1, u18.2.2.2.2.2.2.2.1, (u18.2.2.2.2.2.2.2.2.1.map dat0), (u18.2.2.2.2.2.2.2.2.2.map dat0))))
abbrev zyH (N : Nat) (x : Int × Nat × Int × Int × Int × qL × Int × zqq × qA × qA) : Option ((Int × Nat × Int × qL × Int × zqq × qA × qA)) := (zat N).L N x
def zcR (N : Nat) : LSpec where
 X := Nat × Int × Int × qL × Int × qA
 Y := (Nat × qL × Int × qA)
 p := fun s => rdS 86 1 [(5, .vs0 1000005 25), (0, .ptr 0 0), (1, .int .i64), (6, .int .i64)] [(0, .cells [.lst 1, .int .i64]), (1000005, .tt)] s fun ⟨a0, _, a1, a2, _⟩ ⟨⟨a3, a4, _⟩, a5, _⟩ => (a0, a1, a2, a3, a4, a5)
 st := fun u5 => mkS 86 [(5, (AV.vs 1000005 0 u5.1 25)), (0, (AV.ptr 0 0)), (1, (qI u5.2.1)), (6, (qI u5.2.2.1))] [(0, [(AV.list 1 u5.2.2.2.1 none), (qI u5.2.2.2.2.1)]), (1000005, u5.2.2.2.2.2)] (JC 5).1.toks 1
 out := fun y => (.exit 0, mkS 86 [(5, (AV.vs 1000005 0 y.1 25))] [(0, [(AV.list 1 y.2.1 none), (qI y.2.2.1)]), (1000005, y.2.2.2)] (JC 5).2.toks 1)
 b := fun u5 α kn ke => (match (decide (u5.2.2.1 < u5.2.1)) with | true => (match Je N (3, u5.2.2.2.1, u5.2.2.2.2.1) with | some y6 => (match (y6.1 == 0) with | true => (kn (u5.1, u5.2.1, (i64 (u5.2.2.1 + 1)), y6.2.1, y6.2.2, (u5.2.2.2.2.2.map dat0))) | false => (match zAu N (1, y6.2) with | some y7 => (match zyH N (u5.2.1, u5.1, u5.2.2.1, ((y7.1.2.2.2.2.2.2.2.2.2.1 : Nat) : Int), 0, y7.2.1, y7.2.2.1, y7.1, ((y7.2.2.2.map dat0).map dat0), (u5.2.2.2.2.2.map dat0)) with | some y8 => (match Je N (2, y8.2.2.2.1, y8.2.2.2.2.1) with | some y9 => (if 0 <= (if (i64 (((y8.2.2.2.2.2.1.2.2.2.2.2.2.2.2.2.1 : Nat) : Int) - 1)) < y9.1 then (i64 (((y8.2.2.2.2.2.1.2.2.2.2.2.2.2.2.2.1 : Nat) : Int) - 1)) else y9.1) /\ (if (i64 (((y8.2.2.2.2.2.1.2.2.2.2.2.2.2.2.2.1 : Nat) : Int) - 1)) < y9.1 then (i64 (((y8.2.2.2.2.2.1.2.2.2.2.2.2.2.2.2.1 : Nat) : Int) - 1)) else y9.1) <= (y8.2.2.2.2.2.1.2.2.2.2.2.2.2.2.2.1 : Int) then (if 0 <= (0 : Int) /\ (0 : Int) < (((y8.2.2.2.2.2.1.2.2.2.2.2.2.2.2.2.1 - (if (i64 (((y8.2.2.2.2.2.1.2.2.2.2.2.2.2.2.2.1 : Nat) : Int) - 1)) < y9.1 then (i64 (((y8.2.2.2.2.2.1.2.2.2.2.2.2.2.2.2.1 : Nat) : Int) - 1)) else y9.1).toNat) : Nat) : Int) then (match Jt (y8.2.2.2.2.2.2.1.drop (((0 + (if (i64 (((y8.2.2.2.2.2.1.2.2.2.2.2.2.2.2.2.1 : Nat) : Int) - 1)) < y9.1 then (i64 (((y8.2.2.2.2.2.1.2.2.2.2.2.2.2.2.2.1 : Nat) : Int) - 1)) else y9.1).toNat) + (0 : Int).toNat) * 9)) with | some e10 => (if (y8.2.2.2.2.2.1.2.2.2.2.2.2.2.2.2.1 - (if (i64 (((y8.2.2.2.2.2.1.2.2.2.2.2.2.2.2.2.1 : Nat) : Int) - 1)) < y9.1 then (i64 (((y8.2.2.2.2.2.1.2.2.2.2.2.2.2.2.2.1 : Nat) : Int) - 1)) else y9.1).toNat) * 9 <= (J1 (0 + (if (i64 (((y8.2.2.2.2.2.1.2.2.2.2.2.2.2.2.2.1 : Nat) : Int) - 1)) < y9.1 then (i64 (((y8.2.2.2.2.2.1.2.2.2.2.2.2.2.2.2.1 : Nat) : Int) - 1)) else y9.1).toNat) 9 y8.2.2.2.2.2.2.1).length then (if y8.2.1 * 25 <= y8.2.2.2.2.2.2.2.length /\ (y8.2.1 + [(zB (e10.1, e10.2.1, e10.2.2.1, e10.2.2.2.1, e10.2.2.2.2.1, e10.2.2.2.2.2.1, e10.2.2.2.2.2.2.1, e10.2.2.2.2.2.2.2.1, e10.2.2.2.2.2.2.2.2.1, (zJ ((J1 (0 + (if (i64 (((y8.2.2.2.2.2.1.2.2.2.2.2.2.2.2.2.1 : Nat) : Int) - 1)) < y9.1 then (i64 (((y8.2.2.2.2.2.1.2.2.2.2.2.2.2.2.2.1 : Nat) : Int) - 1)) else y9.1).toNat) 9 y8.2.2.2.2.2.2.1).take ((y8.2.2.2.2.2.1.2.2.2.2.2.2.2.2.2.1 - (if (i64 (((y8.2.2.2.2.2.1.2.2.2.2.2.2.2.2.2.1 : Nat) : Int) - 1)) < y9.1 then (i64 (((y8.2.2.2.2.2.1.2.2.2.2.2.2.2.2.2.1 : Nat) : Int) - 1)) else y9.1).toNat) * 9)) 9 (y8.2.2.2.2.2.1.2.2.2.2.2.2.2.2.2.1 - (if (i64 (((y8.2.2.2.2.2.1.2.2.2.2.2.2.2.2.2.1 : Nat) : Int) - 1)) < y9.1 then (i64 (((y8.2.2.2.2.2.1.2.2.2.2.2.2.2.2.2.1 : Nat) : Int) - 1)) else y9.1).toNat)), y8.2.2.2.2.2.1.2.2.2.2.2.2.2.2.2.2))].length) * 248 <= zh then (kn ((y8.2.1 + [(zB (e10.1, e10.2.1, e10.2.2.1, e10.2.2.2.1, e10.2.2.2.2.1, e10.2.2.2.2.2.1, e10.2.2.2.2.2.2.1, e10.2.2.2.2.2.2.2.1, e10.2.2.2.2.2.2.2.2.1, (zJ ((J1 (0 + (if (i64 (((y8.2.2.2.2.2.1.2.2.2.2.2.2.2.2.2.1 : Nat) : Int) - 1)) < y9.1 then (i64 (((y8.2.2.2.2.2.1.2.2.2.2.2.2.2.2.2.1 : Nat) : Int) - 1)) else y9.1).toNat) 9 y8.2.2.2.2.2.2.1).take ((y8.2.2.2.2.2.1.2.2.2.2.2.2.2.2.2.1 - (if (i64 (((y8.2.2.2.2.2.1.2.2.2.2.2.2.2.2.2.1 : Nat) : Int) - 1)) < y9.1 then (i64 (((y8.2.2.2.2.2.1.2.2.2.2.2.2.2.2.2.1 : Nat) : Int) - 1)) else y9.1).toNat) * 9)) 9 (y8.2.2.2.2.2.1.2.2.2.2.2.2.2.2.2.1 - (if (i64 (((y8.2.2.2.2.2.1.2.2.2.2.2.2.2.2.2.1 : Nat) : Int) - 1)) < y9.1 then (i64 (((y8.2.2.2.2.2.1.2.2.2.2.2.2.2.2.2.1 : Nat) : Int) - 1)) else y9.1).toNat)), y8.2.2.2.2.2.1.2.2.2.2.2.2.2.2.2.2))].length), y8.1, (i64 (y8.2.2.1 + 1)), y9.2.1, y9.2.2, ((y8.2.2.2.2.2.2.2.take (y8.2.1 * 25) ++ [(zB (e10.1, e10.2.1, e10.2.2.1, e10.2.2.2.1, e10.2.2.2.2.1, e10.2.2.2.2.2.1, e10.2.2.2.2.2.2.1, e10.2.2.2.2.2.2.2.1, e10.2.2.2.2.2.2.2.2.1, (zJ ((J1 (0 + (if (i64 (((y8.2.2.2.2.2.1.2.2.2.2.2.2.2.2.2.1 : Nat) : Int) - 1)) < y9.1 then (i64 (((y8.2.2.2.2.2.1.2.2.2.2.2.2.2.2.2.1 : Nat) : Int) - 1)) else y9.1).toNat) 9 y8.2.2.2.2.2.2.1).take ((y8.2.2.2.2.2.1.2.2.2.2.2.2.2.2.2.1 - (if (i64 (((y8.2.2.2.2.2.1.2.2.2.2.2.2.2.2.2.1 : Nat) : Int) - 1)) < y9.1 then (i64 (((y8.2.2.2.2.2.1.2.2.2.2.2.2.2.2.2.1 : Nat) : Int) - 1)) else y9.1).toNat) * 9)) 9 (y8.2.2.2.2.2.1.2.2.2.2.2.2.2.2.2.1 - (if (i64 (((y8.2.2.2.2.2.1.2.2.2.2.2.2.2.2.2.1 : Nat) : Int) - 1)) < y9.1 then (i64 (((y8.2.2.2.2.2.1.2.2.2.2.2.2.2.2.2.1 : Nat) : Int) - 1)) else y9.1).toNat)), y8.2.2.2.2.2.1.2.2.2.2.2.2.2.2.2.2))].flatten).map dat0))) else none) else none) | none => none) else none) else none) | none => none) | none => none) | none => none)) | none => none) | false => (ke (u5.1, u5.2.2.2.1, u5.2.2.2.2.1, (u5.2.2.2.2.2.map dat0))))
abbrev zAP (N : Nat) (x : Nat × Int × Int × qL × Int × qA) : Option ((Nat × qL × Int × qA)) := (zcR N).L N x
def zpR (N : Nat) : FSpec where
 X := Int × qL × Int
 Y := qL × qL × Int
 ash := [[none], [none]]
 bsh := [[some 1, none]]
 S := ⟨[[some 2000025]], [[some 1, none]], [], [], []⟩
 pat := fun a b => rdA [.ptr 0 0, .int .i64] [.cells [.lst 1, .int .i64]] a b fun ⟨_, a0, _⟩ ⟨⟨a1, a2, _⟩, _⟩ => (a0, a1, a2)
 args := fun x => [(AV.ptr 0 0), (AV.v (.int .i64 x.1))]
 bs := fun x => [[(AV.list 1 x.2.1 none), (AV.v (.int .i64 x.2.2))]]
 ret := fun y => ⟨(AV.list 25 y.1 (some 2560000000)), [[(AV.list 1 y.2.1 none), (AV.v (.int .i64 y.2.2))]], none, [], [2560000000], [], none⟩
 t := fun x α k => (match zAP N (0, x.1, 0, x.2.1, x.2.2, ([] : List AV)) with | some y11 => (if y11.1 * 25 <= y11.2.2.2.length then (k ((zJ (y11.2.2.2.take (y11.1 * 25)) 25 y11.1), y11.2.1, y11.2.2.1)) else none) | none => none)
abbrev ztJ (N : Nat) (x : Int × qL × Int) : Option (qL × qL × Int) := (zpR N).d x
def zbN (N : Nat) : List (Nat × LSpec) := [(5, zcR N), (18, zat N)]
def ze5 : Code := Tryd.f9.body.getD .skip
theorem zl7 (N : Nat) : Par (zat N).b := by
 intro x α β kn ke kn' ke' r r' h h1 h2
 revert h
 dsimp only [zat]
 (repeat' (first | (with_reducible refine ze ?_ ?_) | split)) <;> intro h <;> first | exact h1 _ h | exact h2 _ h | cases h
theorem zkx (N : Nat) : jc (JL qP [19, 84]) (zwZ N) JC N (zbN N) 18 ze5 (zat N) := fun x α kn ke => by kernel_rfl
theorem zeT (N : Nat) : ZE qP JC N (zbN N) 18 (zc 18 ze5) :=
 zD (zK qP [19, 84]) (zi _) zl JC N (zbN N) 18 ze5 (l := []) (by kernel_rfl) (by kernel_rfl) an (zat N) rfl (fun s x hc h => by dsimp only [zat] at h; exact zI hc h (fun _ _ => rfl) rfl rfl rfl) (fun _ => rfl) (zkx N) (zl7 N)
theorem ztA (N : Nat) : Par (zcR N).b := by
 intro x α β kn ke kn' ke' r r' h h1 h2
 revert h
 dsimp only [zcR]
 (repeat' (first | (with_reducible refine ze ?_ ?_) | split)) <;> intro h <;> first | exact h1 _ h | exact h2 _ h | cases h
theorem zmD (N : Nat) : jc (JL qP [19, 84]) (zwZ N) JC N (zbN N) 5 ze5 (zcR N) := fun x α kn ke => by kernel_rfl
theorem zpv (N : Nat) : ZE qP JC N (zbN N) 5 (zc 5 ze5) :=
 zD (zK qP [19, 84]) (zi _) zl JC N (zbN N) 5 ze5 (l := [(18, zc 18 ze5)]) (by kernel_rfl) (by kernel_rfl) (al (zeT N) an) (zcR N) rfl (fun s x hc h => by dsimp only [zcR] at h; exact zI hc h (fun _ _ => rfl) rfl rfl rfl) (fun _ => rfl) (zmD N) (ztA N)
theorem zub (N : Nat) : Zd (zpR N).t := by
 intro x α β k k' r r' h h1
 revert h
 dsimp only [zpR]
 (repeat' (first | (with_reducible refine ze ?_ ?_) | split)) <;> intro h <;> first | exact h1 _ h | cases h
theorem zqN (N : Nat) : Zf (JL qP [19, 84]) (zwZ N) JC (lam N (zbN N)) Tryd.f9 (zpR N) := fun x => by kernel_rfl
def zAM (N : Nat) : Ent qP := zx (zK qP [19, 84]) (zi _) zl 9 Tryd.f9 Tryd.func9 rfl JC (lam N (zbN N)) (zm (l := [(5, zc 5 ze5), (18, zc 18 ze5)]) (al (zpv N) (al (zeT N) an)) (by kernel_rfl)) (zpR N) (fun _ => ⟨rfl, rfl⟩) (zqN N) (fun _ _ _ h => zu h (fun _ _ => rfl) (fun _ _ => rfl)) (zub N)
def zoM : Nat -> Keep × Keep := anL []
def zAO (N : Nat) : GamK := gam (P := qP) [zic N]
def zg9 (N : Nat) : FSpec where
 X := qL × qL × Int
 Y := ByteArray × qL × Int
 ash := [[none], [some 1]]
 bsh := [[some 1, none]]
 S := ⟨[[none]], [[some 1, none]], [], [], []⟩
 pat := fun a b => rdA [.ptr 0 0, .lst 1] [.cells [.lst 1, .int .i64]] a b fun ⟨_, a0, _⟩ ⟨⟨a1, a2, _⟩, _⟩ => (a0, a1, a2)
 args := fun x => [(AV.ptr 0 0), (AV.list 1 x.1 none)]
 bs := fun x => [[(AV.list 1 x.2.1 none), (AV.v (.int .i64 x.2.2))]]
 ret := fun y => ⟨(AV.v (.string y.1)), [[(AV.list 1 y.2.1 none), (AV.v (.int .i64 y.2.2))]], none, [], [], [], none⟩
 t := fun x α k => (match Je N ((x.1.length : Int), x.2) with | some y1 => (if 0 <= y1.1 then (match x.1[y1.1.toNat]? with | some c2 => (match c2[0]? with | some x3 => (match x3 with | .v (.string s4) => (k (s4, y1.2)) | _ => none) | none => none) | none => none) else none) | none => none)
abbrev ziy (N : Nat) (x : qL × qL × Int) : Option (ByteArray × qL × Int) := (zg9 N).d x
theorem zn1 (N : Nat) : Zd (zg9 N).t := by
 intro x α β k k' r r' h h1
 revert h
 dsimp only [zg9]
 (repeat' (first | (with_reducible refine ze ?_ ?_) | split)) <;> intro h <;> first | exact h1 _ h | cases h
theorem zoB (N : Nat) : Zf (zn qP) (zAO N) zoM (lam N []) Tryd.f27 (zg9 N) := fun x => by kernel_rfl
def zBM (N : Nat) : Ent qP := zx (zd qP) (zi _) zl 27 Tryd.f27 Tryd.func27 rfl zoM (lam N []) (zm (l := []) an (by kernel_rfl)) (zg9 N) (fun _ => ⟨rfl, rfl⟩) (zoB N) (fun _ _ _ h => zu h (fun _ _ => rfl) (fun _ _ => rfl)) (zn1 N)
def zcI : Nat -> Keep × Keep := anL [(6, ⟨[0, 1, 4, 6, 7, 8], [], [0, 4, 6], [], [((4, 0), 1)], [], [], [], false, none, [((6, 0), 1)]⟩, ⟨[4, 6, 7], [], [0, 4, 6], [], [((4, 0), 1)], [], [], [], false, none, [((6, 0), 1)]⟩)]
def zAT (N : Nat) : GamK := gam (P := qP) [zic N, zAM N, zBM N, zCG N, zCv N, zC3 N, zDO N, zDP N]
def zdJ (N : Nat) : LSpec where
 X := Int × Int × Int × qL × Int × qL × qL
 Y := (Int × qL × Int × qL × qL)
 p := fun s => rdS 111 1 [(0, .ptr 0 0), (1, .int .i64), (4, .ptr 4 0), (6, .ptr 6 0), (7, .int .i64), (8, .int .i64)] [(0, .cells [.lst 1, .int .i64]), (4, .cells [.tok 1 6401048576]), (6, .cells [.lst 1])] s fun ⟨_, a0, _, _, a1, a2, _⟩ ⟨⟨a3, a4, _⟩, ⟨a5, _⟩, ⟨a6, _⟩, _⟩ => (a0, a1, a2, a3, a4, a5, a6)
 st := fun u6 => mkS 111 [(0, (AV.ptr 0 0)), (1, (qI u6.1)), (4, (AV.ptr 4 0)), (6, (AV.ptr 6 0)), (7, (qI u6.2.1)), (8, (qI u6.2.2.1))] [(0, [(AV.list 1 u6.2.2.2.1 none), (qI u6.2.2.2.2.1)]), (4, [(AV.list 1 u6.2.2.2.2.2.1 (some 6401048576))]), (6, [(AV.list 1 u6.2.2.2.2.2.2 none)])] (zcI 6).1.toks 1
 out := fun y => (.exit 0, mkS 111 [(4, (AV.ptr 4 0)), (6, (AV.ptr 6 0)), (7, (qI y.1))] [(0, [(AV.list 1 y.2.1 none), (qI y.2.2.1)]), (4, [(AV.list 1 y.2.2.2.1 (some 6401048576))]), (6, [(AV.list 1 y.2.2.2.2 none)])] (zcI 6).2.toks 1)
 b := fun u6 α kn ke => (match (decide (u6.2.2.1 < u6.1)) with | true => (match Je N (50, u6.2.2.2.1, u6.2.2.2.2.1) with | some y19 => (match Je N ((if (u6.2.2.2.2.2.2.length : Int) > 1 then (u6.2.2.2.2.2.2.length : Int) else 1), y19.2) with | some y20 => (match Je N (8, y20.2) with | some y21 => (match (y21.1 == 0) with | true => (match ztJ N (4, y21.2) with | some y22 => (match (decide ((y22.1.length : Int) > 0)) with | true => (match ziy N ([[(AV.v (.string (⟨#[97, 110, 110]⟩ : ByteArray)))], [(AV.v (.string (⟨#[98, 111, 98]⟩ : ByteArray)))]], y22.2) with | some y23 => (match Je N ((y22.1.length : Int), y23.2) with | some y24 => (if 0 <= y24.1 then (match y22.1[y24.1.toNat]? with | some c25 => (match zgT c25 with | some e26 => (match zyw N (u6.2.2.2.2.2.2, y20.1, y23.1, e26, (i64 (u6.2.1 + y19.1))) with | some y27 => (match (y27.2 == 0) with | true => (kn (u6.1, (i64 (u6.2.1 + y19.1)), (i64 (u6.2.2.1 + 1)), y24.2.1, y24.2.2, u6.2.2.2.2.2.1, y27.1)) | false => (kn (u6.1, (i64 (u6.2.1 + y19.1)), (i64 (u6.2.2.1 + 1)), y24.2.1, y24.2.2, u6.2.2.2.2.2))) | none => none) | none => none) | none => none) else none) | none => none) | none => none) | false => (match (0 == 0) with | true => (kn (u6.1, (i64 (u6.2.1 + y19.1)), (i64 (u6.2.2.1 + 1)), y22.2.1, y22.2.2, u6.2.2.2.2.2)) | false => (kn (u6.1, (i64 (u6.2.1 + y19.1)), (i64 (u6.2.2.1 + 1)), y22.2.1, y22.2.2, u6.2.2.2.2.2)))) | none => none) | false => (match (y21.1 == 1) with | true => (match ziy N ([[(AV.v (.string (⟨#[97, 110, 110]⟩ : ByteArray)))], [(AV.v (.string (⟨#[98, 111, 98]⟩ : ByteArray)))]], y21.2) with | some y28 => (match zy4 N (u6.2.2.2.2.2.2, y20.1, y28.1, (i64 (u6.2.1 + y19.1))) with | some y29 => (match (y29.2 == 0) with | true => (kn (u6.1, (i64 (u6.2.1 + y19.1)), (i64 (u6.2.2.1 + 1)), y28.2.1, y28.2.2, u6.2.2.2.2.2.1, y29.1)) | false => (kn (u6.1, (i64 (u6.2.1 + y19.1)), (i64 (u6.2.2.1 + 1)), y28.2.1, y28.2.2, u6.2.2.2.2.2))) | none => none) | none => none) | false => (match (y21.1 == 2) with | true => (match Je N ((if (u6.2.2.2.2.2.2.length : Int) > 1 then (u6.2.2.2.2.2.2.length : Int) else 1), y21.2) with | some y30 => (match ziy N ([[(AV.v (.string (⟨#[97, 110, 110]⟩ : ByteArray)))], [(AV.v (.string (⟨#[98, 111, 98]⟩ : ByteArray)))]], y30.2) with | some y31 => (match zwS N (u6.2.2.2.2.2.2, y20.1, y30.1, y31.1, (i64 (u6.2.1 + y19.1))) with | some y32 => (match (y32.2 == 0) with | true => (kn (u6.1, (i64 (u6.2.1 + y19.1)), (i64 (u6.2.2.1 + 1)), y31.2.1, y31.2.2, u6.2.2.2.2.2.1, y32.1)) | false => (kn (u6.1, (i64 (u6.2.1 + y19.1)), (i64 (u6.2.2.1 + 1)), y31.2.1, y31.2.2, u6.2.2.2.2.2))) | none => none) | none => none) | none => none) | false => (match (y21.1 == 3) with | true => (match ziy N ([[(AV.v (.string (⟨#[97, 110, 110]⟩ : ByteArray)))], [(AV.v (.string (⟨#[98, 111, 98]⟩ : ByteArray)))]], y21.2) with | some y33 => (match zxP N (u6.2.2.2.2.2.2, y20.1, y33.1, (i64 (u6.2.1 + y19.1))) with | some y34 => (match (y34.2 == 0) with | true => (kn (u6.1, (i64 (u6.2.1 + y19.1)), (i64 (u6.2.2.1 + 1)), y33.2.1, y33.2.2, u6.2.2.2.2.2.1, y34.1)) | false => (kn (u6.1, (i64 (u6.2.1 + y19.1)), (i64 (u6.2.2.1 + 1)), y33.2.1, y33.2.2, u6.2.2.2.2.2))) | none => none) | none => none) | false => (match ztJ N (4, y21.2) with | some y35 => (match zsI N (u6.2.2.2.2.2.2, y35.1, (i64 (u6.2.1 + y19.1))) with | some y36 => (match (y36.2.2 == 0) with | true => (kn (u6.1, (i64 (u6.2.1 + y19.1)), (i64 (u6.2.2.1 + 1)), y35.2.1, y35.2.2, u6.2.2.2.2.2.1, y36.1)) | false => (kn (u6.1, (i64 (u6.2.1 + y19.1)), (i64 (u6.2.2.1 + 1)), y35.2.1, y35.2.2, u6.2.2.2.2.2))) | none => none) | none => none))))) | none => none) | none => none) | none => none) | false => (ke (u6.2.1, u6.2.2.2)))
abbrev zA9 (N : Nat) (x : Int × Int × Int × qL × Int × qL × qL) : Option ((Int × qL × Int × qL × qL)) := (zdJ N).L N x
def zpf (N : Nat) : FSpec where
 X := Int × qL × Int
 Y := qL × Int × qL × Int
 ash := [[none], [none]]
 bsh := [[some 1, none]]
 S := ⟨[[some 1], [none]], [[some 1, none]], [], [], []⟩
 pat := fun a b => rdA [.ptr 0 0, .int .i64] [.cells [.lst 1, .int .i64]] a b fun ⟨_, a0, _⟩ ⟨⟨a1, a2, _⟩, _⟩ => (a0, a1, a2)
 args := fun x => [(AV.ptr 0 0), (AV.v (.int .i64 x.1))]
 bs := fun x => [[(AV.list 1 x.2.1 none), (AV.v (.int .i64 x.2.2))]]
 ret := fun y => ⟨(AV.tup [(AV.agg [(AV.list 1 y.1 none)]), (AV.v (.int .i64 y.2.1))]), [[(AV.list 1 y.2.2.1 none), (AV.v (.int .i64 y.2.2.2))]], none, [], [], [], none⟩
 t := fun x α k => (match zA9 N (x.1, 100, 0, x.2.1, x.2.2, ([] : qL), ([] : qL)) with | some y37 => (k (y37.2.2.2.2, y37.1, y37.2.1, y37.2.2.1)) | none => none)
abbrev zzD (N : Nat) (x : Int × qL × Int) : Option (qL × Int × qL × Int) := (zpf N).d x
def zgO (N : Nat) : List (Nat × LSpec) := [(6, zdJ N)]
def zsp : Code := Tryd.f7.body.getD .skip
theorem zqB (N : Nat) : Par (zdJ N).b := by
 intro x α β kn ke kn' ke' r r' h h1 h2
 revert h
 dsimp only [zdJ]
 (repeat' (first | (with_reducible refine ze ?_ ?_) | split)) <;> intro h <;> first | exact h1 _ h | exact h2 _ h | cases h
theorem znw (N : Nat) : jc (zn qP) (zAT N) zcI N (zgO N) 6 zsp (zdJ N) := fun x α kn ke => by kernel_rfl
theorem zmS (N : Nat) : ZE qP zcI N (zgO N) 6 (zc 6 zsp) :=
 zD (zd qP) (zi _) zl zcI N (zgO N) 6 zsp (l := []) (by kernel_rfl) (by kernel_rfl) an (zdJ N) rfl (fun s x hc h => by dsimp only [zdJ] at h; exact zI hc h (fun _ _ => rfl) rfl rfl rfl) (fun _ => rfl) (znw N) (zqB N)
theorem zu8 (N : Nat) : Zd (zpf N).t := by
 intro x α β k k' r r' h h1
 revert h
 dsimp only [zpf]
 (repeat' (first | (with_reducible refine ze ?_ ?_) | split)) <;> intro h <;> first | exact h1 _ h | cases h
theorem zr4 (N : Nat) : Zf (zn qP) (zAT N) zcI (lam N (zgO N)) Tryd.f7 (zpf N) := fun x => by kernel_rfl
def zCo (N : Nat) : Ent qP := zx (zd qP) (zi _) zl 7 Tryd.f7 Tryd.func7 rfl zcI (lam N (zgO N)) (zm (l := [(6, zc 6 zsp)]) (al (zmS N) an) (by kernel_rfl)) (zpf N) (fun _ => ⟨rfl, rfl⟩) (zr4 N) (fun _ _ _ h => zu h (fun _ _ => rfl) (fun _ _ => rfl)) (zu8 N)
def Jd : Nat -> Keep × Keep := anL [(8, qK [2, 3, 5] [] [2, 3], qK [4] [] []), (21, ⟨[2, 3, 5, 8], [], [2, 3], [(6, 29), (7, 29)], [], [], [], [], false, none, []⟩, qK [2, 3, 4, 5] [] [2, 3])]
def zys (N : Nat) : GamK := gam (P := qP) [zyS N]
def ZS (N : Nat) : LSpec where
 X := qL × qL × Int × Int × qL × qL
 Y := (Bool × Int × qL × qL) ⊕ (Int × qL × qL)
 p := fun s => rdS 110 0 [(6, .lst 29), (7, .lst 29), (2, .ptr 2 0), (3, .ptr 3 0), (5, .int .i64), (8, .int .i64)] [(2, .cells [.lst 1]), (3, .cells [.lst 1])] s fun ⟨a0, a1, _, _, a2, a3, _⟩ ⟨⟨a4, _⟩, ⟨a5, _⟩, _⟩ => (a0, a1, a2, a3, a4, a5)
 st := fun u21 => mkS 110 [(6, (AV.list 29 u21.1 none)), (7, (AV.list 29 u21.2.1 none)), (2, (AV.ptr 2 0)), (3, (AV.ptr 3 0)), (5, (qI u21.2.2.1)), (8, (qI u21.2.2.2.1))] [(2, [(AV.list 1 u21.2.2.2.2.1 none)]), (3, [(AV.list 1 u21.2.2.2.2.2 none)])] (Jd 21).1.toks 0
 out := fun y => match y with
  | .inl y => (.ret, mkS 110 [(2, (AV.ptr 2 0)), (3, (AV.ptr 3 0)), (4, (AV.v (.bool y.1))), (5, (qI y.2.1))] [(2, [(AV.list 1 y.2.2.1 none)]), (3, [(AV.list 1 y.2.2.2 none)])] (Jd 21).2.toks 0)
  | .inr y => (.exit 2, mkS 110 [(2, (AV.ptr 2 0)), (3, (AV.ptr 3 0)), (5, (qI y.1))] [(2, [(AV.list 1 y.2.1 none)]), (3, [(AV.list 1 y.2.2 none)])] (Jd 21).2.toks 0)
 b := fun u21 α kn ke => (match (decide (u21.2.2.2.1 < (u21.1.length : Int))) with | true => (if 0 <= u21.2.2.2.1 then (match u21.1[u21.2.2.2.1.toNat]? with | some c42 => (match (c42.drop 0)[0]? with | some x43 => (match x43 with | .v (.int q45 n44) => (if q45 = .i64 then (if 0 <= u21.2.2.2.1 then (match u21.2.1[u21.2.2.2.1.toNat]? with | some c46 => (match (c46.drop 0)[0]? with | some x47 => (match x47 with | .v (.int q49 n48) => (if q49 = .i64 then (match (n44 != n48) with | true => (ke (.inl (false, u21.2.2.1, u21.2.2.2.2))) | false => (if 0 <= u21.2.2.2.1 then (match u21.1[u21.2.2.2.1.toNat]? with | some c50 => (match (c50.drop 1)[0]? with | some x51 => (match x51 with | .v (.int q53 n52) => (if q53 = .i64 then (if 0 <= u21.2.2.2.1 then (match u21.2.1[u21.2.2.2.1.toNat]? with | some c54 => (match (c54.drop 1)[0]? with | some x55 => (match x55 with | .v (.int q57 n56) => (if q57 = .i64 then (match (n52 != n56) with | true => (ke (.inl (false, u21.2.2.1, u21.2.2.2.2))) | false => (if 0 <= u21.2.2.2.1 then (match u21.1[u21.2.2.2.1.toNat]? with | some c58 => (match (c58.drop 2)[0]? with | some x59 => (match x59 with | .v (.string s60) => (if 0 <= u21.2.2.2.1 then (match u21.2.1[u21.2.2.2.1.toNat]? with | some c61 => (match (c61.drop 2)[0]? with | some x62 => (match x62 with | .v (.string s63) => (match (!(s60.toList == s63.toList)) with | true => (ke (.inl (false, u21.2.2.1, u21.2.2.2.2))) | false => (if 0 <= u21.2.2.2.1 then (match u21.1[u21.2.2.2.1.toNat]? with | some c64 => (match (c64.drop 3)[0]? with | some x65 => (match x65 with | .v (.int q67 n66) => (if q67 = .i64 then (if 0 <= u21.2.2.2.1 then (match u21.2.1[u21.2.2.2.1.toNat]? with | some c68 => (match (c68.drop 3)[0]? with | some x69 => (match x69 with | .v (.int q71 n70) => (if q71 = .i64 then (match (n66 != n70) with | true => (ke (.inl (false, u21.2.2.1, u21.2.2.2.2))) | false => (if 0 <= u21.2.2.2.1 then (match u21.1[u21.2.2.2.1.toNat]? with | some c72 => (match zgT (c72.drop 4) with | some e73 => (if 0 <= u21.2.2.2.1 then (match u21.2.1[u21.2.2.2.1.toNat]? with | some c74 => (match zgT (c74.drop 4) with | some e75 => (match zcM N (e73, e75) with | some y76 => (match (!y76) with | true => (ke (.inl (false, u21.2.2.1, u21.2.2.2.2))) | false => (kn (u21.1, u21.2.1, u21.2.2.1, (i64 (u21.2.2.2.1 + 1)), u21.2.2.2.2))) | none => none) | none => none) | none => none) else none) | none => none) | none => none) else none)) else none) | _ => none) | none => none) | none => none) else none) else none) | _ => none) | none => none) | none => none) else none)) | _ => none) | none => none) | none => none) else none) | _ => none) | none => none) | none => none) else none)) else none) | _ => none) | none => none) | none => none) else none) else none) | _ => none) | none => none) | none => none) else none)) else none) | _ => none) | none => none) | none => none) else none) else none) | _ => none) | none => none) | none => none) else none) | false => (ke (.inr (u21.2.2.1, u21.2.2.2.2))))
abbrev zpW (N : Nat) (x : qL × qL × Int × Int × qL × qL) : Option ((Bool × Int × qL × qL) ⊕ (Int × qL × qL)) := (ZS N).L N x
def jC (N : Nat) : LSpec where
 X := Int × qL × qL
 Y := (Bool) ⊕ (Unit)
 p := fun s => rdS 110 0 [(2, .ptr 2 0), (3, .ptr 3 0), (5, .int .i64)] [(2, .cells [.lst 1]), (3, .cells [.lst 1])] s fun ⟨_, _, a0, _⟩ ⟨⟨a1, _⟩, ⟨a2, _⟩, _⟩ => (a0, a1, a2)
 st := fun u8 => mkS 110 [(2, (AV.ptr 2 0)), (3, (AV.ptr 3 0)), (5, (qI u8.1))] [(2, [(AV.list 1 u8.2.1 none)]), (3, [(AV.list 1 u8.2.2 none)])] (Jd 8).1.toks 0
 out := fun y => match y with
  | .inl y => (.ret, mkS 110 [(4, (AV.v (.bool y)))] [] (Jd 8).2.toks 0)
  | .inr y => (.exit 0, mkS 110 [] [] (Jd 8).2.toks 0)
 b := fun u8 α kn ke => (match (decide (u8.1 < (u8.2.1.length : Int))) with | true => (if 0 <= u8.1 then (match u8.2.1[u8.1.toNat]? with | some c1 => (match (c1.drop 0)[0]? with | some x2 => (match ju 29 x2 with | some l3 => (if 0 <= u8.1 then (match u8.2.2[u8.1.toNat]? with | some c4 => (match (c4.drop 0)[0]? with | some x5 => (match ju 29 x5 with | some l6 => (match ((l3.length : Int) != (l6.length : Int)) with | true => (ke (.inl false)) | false => (match zpW N (l3, l6, u8.1, 0, u8.2) with | some y77 => (match y77 with | .inl z78 => (ke (.inl z78.1)) | .inr z79 => (kn ((i64 (z79.1 + 1)), z79.2))) | none => none)) | none => none) | none => none) | none => none) else none) | none => none) | none => none) | none => none) else none) | false => (ke (.inr ())))
abbrev zwy (N : Nat) (x : Int × qL × qL) : Option ((Bool) ⊕ (Unit)) := (jC N).L N x
def zeb (N : Nat) : FSpec where
 X := qL × qL
 Y := Bool
 ash := [[some 1], [some 1]]
 S := ⟨[[none]], [], [], [], []⟩
 pat := fun a b => zk a fun v1 c2 => ji v1 fun c3 => zk c3 fun c4 c5 => jb 1 c4 fun a0 => zQ c5 <| zk c2 fun v6 c7 => ji v6 fun c8 => zk c8 fun c9 c10 => jb 1 c9 fun a1 => zQ c10 <| zQ c7 <| zQ b <| some (a0, a1)
 args := fun x => [(AV.agg [(AV.list 1 x.1 none)]), (AV.agg [(AV.list 1 x.2 none)])]
 ret := fun y => ⟨(AV.v (.bool y)), [], none, [], [], [], none⟩
 t := fun x α k => (match ((x.1.length : Int) != (x.2.length : Int)) with | true => (k false) | false => (match zwy N (0, x) with | some y80 => (match y80 with | .inl z81 => (k z81) | .inr z82 => (k true)) | none => none))
abbrev zw4 (N : Nat) (x : qL × qL) : Option (Bool) := (zeb N).d x
def zby (N : Nat) : List (Nat × LSpec) := [(8, jC N), (21, ZS N)]
def zfF : Code := Tryd.f11.body.getD .skip
theorem zpA (N : Nat) : Par (ZS N).b := by
 intro x α β kn ke kn' ke' r r' h h1 h2
 revert h
 dsimp only [ZS]
 (repeat' (first | (with_reducible refine ze ?_ ?_) | split)) <;> intro h <;> first | exact h1 _ h | exact h2 _ h | cases h
theorem zj3 (N : Nat) : jc (zn qP) (zys N) Jd N (zby N) 21 zfF (ZS N) := fun x α kn ke => by kernel_rfl
theorem zes (N : Nat) : ZE qP Jd N (zby N) 21 (zc 21 zfF) :=
 zD (zd qP) (zi _) zl Jd N (zby N) 21 zfF (l := []) (by kernel_rfl) (by kernel_rfl) an (ZS N) rfl (fun s x hc h => by dsimp only [ZS] at h; exact zI hc h (fun _ _ => rfl) rfl rfl rfl) (fun _ => rfl) (zj3 N) (zpA N)
theorem zrR (N : Nat) : Par (jC N).b := by
 intro x α β kn ke kn' ke' r r' h h1 h2
 revert h
 dsimp only [jC]
 (repeat' (first | (with_reducible refine ze ?_ ?_) | split)) <;> intro h <;> first | exact h1 _ h | exact h2 _ h | cases h
theorem zmC (N : Nat) : jc (zn qP) (zys N) Jd N (zby N) 8 zfF (jC N) := fun x α kn ke => by kernel_rfl
theorem zm4 (N : Nat) : ZE qP Jd N (zby N) 8 (zc 8 zfF) :=
 zD (zd qP) (zi _) zl Jd N (zby N) 8 zfF (l := [(21, zc 21 zfF)]) (by kernel_rfl) (by kernel_rfl) (al (zes N) an) (jC N) rfl (fun s x hc h => by dsimp only [jC] at h; exact zI hc h (fun _ _ => rfl) rfl rfl rfl) (fun _ => rfl) (zmC N) (zrR N)
theorem zsT (N : Nat) : Zd (zeb N).t := by
 intro x α β k k' r r' h h1
 revert h
 dsimp only [zeb]
 (repeat' (first | (with_reducible refine ze ?_ ?_) | split)) <;> intro h <;> first | exact h1 _ h | cases h
theorem zuT (N : Nat) : Zf (zn qP) (zys N) Jd (lam N (zby N)) Tryd.f11 (zeb N) := fun x => by kernel_rfl
theorem zyj (N : Nat) (a : List AV) (b : qL) (x : (zeb N).X) (h : (zeb N).pat a b = some x) : a = (zeb N).args x /\ b = (zeb N).bs x := by
 obtain ⟨v1, c2, rfl, g0⟩ := zb (show zk _ _ = some x from h)
 obtain ⟨c3, rfl, g1⟩ := zS g0; clear g0
 obtain ⟨c4, c5, rfl, g2⟩ := zb g1; clear g1
 obtain ⟨a0, rfl, g3⟩ := zq g2; clear g2
 obtain ⟨rfl, g4⟩ := zg g3; clear g3
 obtain ⟨v6, c7, rfl, g5⟩ := zb g4; clear g4
 obtain ⟨c8, rfl, g6⟩ := zS g5; clear g5
 obtain ⟨c9, c10, rfl, g7⟩ := zb g6; clear g6
 obtain ⟨a1, rfl, g8⟩ := zq g7; clear g7
 obtain ⟨rfl, g9⟩ := zg g8; clear g8
 obtain ⟨rfl, g10⟩ := zg g9; clear g9
 obtain ⟨rfl, g11⟩ := zg g10; clear g10
 clear h
 cases g11
 exact ⟨rfl, rfl⟩
def zC2 (N : Nat) : Ent qP := zx (zd qP) (zi _) zl 11 Tryd.f11 Tryd.func11 rfl Jd (lam N (zby N)) (zm (l := [(8, zc 8 zfF), (21, zc 21 zfF)]) (al (zm4 N) (al (zes N) an)) (by kernel_rfl)) (zeb N) (fun _ => ⟨rfl, rfl⟩) (zuT N) (zyj N) (zsT N)
def zzj : Nat -> Keep × Keep := anL []
def F3_g (N : Nat) : GamK := gam (P := qP) [F6_e N, zic N, zCo N, zAM N, zAa N, zC2 N, zCW N]
def zzf (N : Nat) : FSpec where
 X := qL
 Y := Bool
 ash := [[some 1]]
 S := ⟨[[none]], [], [], [], []⟩
 pat := fun a b => rdA [.lst 1] [] a b fun ⟨a0, _⟩ _ => a0
 args := fun x => [(AV.list 1 x none)]
 ret := fun y => ⟨(AV.v (.bool y)), [], none, [], [], [], none⟩
 t := fun x α k => (match zDQ N x with | some y1 => (match Je N (8, y1) with | some y2 => (match zzD N y2 with | some y3 => (match ztJ N (4, y3.2.2) with | some y4 => (match zh8 N (y3.1, y4.1, y3.2.1) with | some y5 => (match zh8 N (y5.1, y4.1, y3.2.1) with | some y6 => (match (y5.2.2 == 0) with | true => (match (y6.2.2 == 0) with | true => (match ((y6.2.1.length : Int) == 0) with | true => (match zw4 N (y5.1, y6.1) with | some y7 => (match y7 with | true => (match zBC N () with | some y8 => (k y8) | none => none) | false => (k false)) | none => none) | false => (k false)) | false => (k false)) | false => (k false)) | none => none) | none => none) | none => none) | none => none) | none => none) | none => none)
abbrev zEe (N : Nat) (x : qL) : Option (Bool) := (zzf N).d x
theorem zyt (N : Nat) : Zd (zzf N).t := by
 intro x α β k k' r r' h h1
 revert h
 dsimp only [zzf]
 (repeat' (first | (with_reducible refine ze ?_ ?_) | split)) <;> intro h <;> first | exact h1 _ h | cases h
theorem zyP (N : Nat) : Zf (zn qP) (F3_g N) zzj (lam N []) Tryd.f3 (zzf N) := fun x => by kernel_rfl
def F3_e (N : Nat) : Ent qP := zx (zd qP) (zi _) zl 3 Tryd.f3 Tryd.func3 rfl zzj (lam N []) (zm (l := []) an (by kernel_rfl)) (zzf N) (fun _ => ⟨rfl, rfl⟩) (zyP N) (fun _ _ _ h => zu h (fun _ _ => rfl) (fun _ _ => rfl)) (zyt N)
end
end Go.Proofs.YthdgnfcbehcplaaDoor
end
section
namespace Go.Proofs.YthdgnfcbehcplaaDoor
theorem dF {p : Prop} [Decidable p] (h : ¬ p) : decide p = false := decide_eq_false h
theorem dT {p : Prop} [Decidable p] (h : p) : decide p = true := decide_eq_true h
theorem pS {d f : Nat} (h : d < f) : ∃ f', f = f' + 1 := ⟨f - 1, by omega⟩
def zA (xs : List Int) : List (List AV) := xs.map fun x => [I x]
theorem Zz {x : Int} (h : -9223372036854775808 <= x /\ x <= 9223372036854775807) : i64 x = x := IntWalk.i64_in _ (by omega)
theorem jT (xs : List Int) : (zA xs).length = xs.length := by simp [zA]
theorem zdg (xs : List Int) (k : Nat) (h : k < xs.length) : (zA xs)[k]? = some [I xs[k]] := by simp [zA, h]
structure Sc (xs : List Int) (p : Int) : Prop where
 l : xs.length <= 2000
 p0 : 0 <= p
 p1 : p <= xs.length
theorem zBw (N : Nat) {xs : List Int} {p : Int} (D : Sc xs p) : ∃ v p', zx3 N (zA xs, p) = some (v, zA xs, p') /\ Sc xs p' := by
 obtain ⟨l, p0, p1⟩ := D
 simp only [zx3, FSpec.d, zz1]
 by_cases h : p >= ((zA xs).length : Int)
 ·simp only [h, decide_true]
  exact ⟨0, p, rfl, ⟨l, p0, p1⟩⟩
 ·have h0 := h
  rw [jT] at h0
  have h2 : p.toNat < xs.length := by omega
  have hp : i64 (p + 1) = p + 1 := Zz (by omega)
  have hq : i64 (p + 1 - 1) = p := by rw [Zz (by omega)]; omega
  simp only [h, decide_false, hp, hq, p0, if_true, zdg xs _ h2, List.getElem?_cons_zero]
  exact ⟨_, _, rfl, ⟨l, by omega, by omega⟩⟩
theorem zAK (N : Nat) (v : Int) {n : Int} (hn : 1 <= n /\ n <= 1000000) : ∃ r, znd N (v, n) = some r /\ 0 <= r /\ r < n := by
 simp only [znd, FSpec.d, zli]
 have h1 : ¬ n < 1 := by omega
 have h3 : ¬ n = 0 := by omega
 simp only [h1, decide_false, h3, if_false]
 by_cases hneg : v.tmod n < 0
 ·simp only [hneg, decide_true]
  have t1 : -n < v.tmod n := by
   have := Int.tmod_lt_of_pos (-v) (show 0 < n by omega)
   rw [Int.neg_tmod] at this
   omega
  rw [Zz (by omega)]
  exact ⟨_, rfl, by omega, by omega⟩
 ·simp only [hneg, decide_false]
  have t1 := Int.tmod_lt_of_pos v (show 0 < n by omega)
  exact ⟨_, rfl, by omega, by omega⟩
theorem zdR (N : Nat) {n : Int} {xs : List Int} {p : Int} (hn : 1 <= n /\ n <= 1000000) (D : Sc xs p) : ∃ v p', zcD N (n, zA xs, p) = some (v, zA xs, p') /\ (0 <= v /\ v < n) /\ Sc xs p' := by
 obtain ⟨v, p', h1, h2⟩ := zBw N D
 obtain ⟨r, h3, h4⟩ := zAK N v hn
 refine ⟨r, p', ?_, h4, h2⟩
 simp only [zcD, FSpec.d, zEa]
 simp only [h1, h3]
theorem zxX (N : Nat) (O : List Int) {xs : List Int} {p : Int} (hO : 1 <= O.length /\ O.length <= 1000) (D : Sc xs p) : ∃ v p', zuF N (zA O, zA xs, p) = some (v, zA xs, p') /\ v ∈ O /\ Sc xs p' := by
 simp only [zuF, FSpec.d, zBJ]
 obtain ⟨v, p', h1, h2, h3⟩ := zdR N (n := (O.length : Int)) (by omega) D
 rw [jT, h1]
 have h4 : v.toNat < O.length := by omega
 simp only [h2.1, if_true, zdg O _ h4, List.getElem?_cons_zero]
 exact ⟨_, _, rfl, List.getElem_mem h4, h3⟩
theorem zzn (N : Nat) (xs : List Int) : zDQ N (zA xs) = some (zA (xs.take 2000), 0) /\ Sc (xs.take 2000) 0 := by
 refine ⟨?_, ⟨by simp; omega, by omega, by omega⟩⟩
 simp only [zDQ, FSpec.d, zzb, jT]
 by_cases h : 2000 < (xs.length : Int)
 ·have h2 : (0 <= (2000 : Int) /\ (2000 : Int) <= xs.length) := by omega
  simp only [h, if_true, h2, and_self]
  simp [zA]
 ·have h2 : (0 <= (xs.length : Int) /\ (xs.length : Int) <= xs.length) := by omega
  simp only [h, if_false, h2, and_self, if_true]
  rw [List.take_of_length_le (by rw [jT]; omega), List.take_of_length_le (by omega)]
section
variable {T : Type} (en : T -> List AV) (n : Nat) (hl : ∀ e, (en e).length = n)
def fl (L : List T) : List AV := (L.map en).flatten
include hl
theorem zbI (L : List T) : (fl en L).length = L.length * n := by
 induction L with
 | nil => simp [fl]
 | cons a L ih =>
  show ((en a) ++ fl en L).length = _
  rw [List.length_append, ih, hl, List.length_cons, Nat.succ_mul, Nat.add_comm]
theorem zir : ∀ (L : List T) (i j : Nat) (h : i < L.length), j <= n -> (fl en L).drop (i * n + j) = (en L[i]).drop j ++ fl en (L.drop (i + 1))
 | a :: L, 0, j, h, hj => by
  show ((en a) ++ fl en L).drop (0 * n + j) = _
  rw [Nat.zero_mul, Nat.zero_add, List.drop_append_of_le_length (by rw [hl]; exact hj)]
  rfl
 | a :: L, i + 1, j, h, hj => by
  show ((en a) ++ fl en L).drop ((i + 1) * n + j) = _
  have e : (i + 1) * n + j = (en a).length + (i * n + j) := by rw [hl, Nat.succ_mul]; omega
  rw [e, List.drop_append, List.drop_eq_nil_of_le (by omega), Nat.add_sub_cancel_left, List.nil_append, zir L i j (by simpa using h) hj]
  rfl
theorem zvj (L : List T) (i j : Nat) (h : i < L.length) (hj : j < n) : (fl en L)[i * n + j]? = (en L[i])[j]? := by
 have := congrArg (fun l : List AV => l[0]?) (zir en n hl L i j h (Nat.le_of_lt hj))
 simp only [List.getElem?_drop, Nat.add_zero] at this
 rw [this, List.getElem?_append_left (by rw [List.length_drop, hl]; omega)]
 simp
omit hl in
theorem zvP (L : List T) (a : T) : fl en L ++ en a = fl en (L ++ [a]) := by
 unfold fl
 rw [List.map_append, List.flatten_append]
 simp
theorem zhM (L : List T) (k : Nat) (hk : k = L.length) : (fl en L).take (k * n) = fl en L := by
 rw [List.take_of_length_le]
 rw [zbI en n hl, hk]
 exact Nat.le_refl _
omit hl in
theorem zwa (hd : ∀ e, (en e).map dat0 = en e) (L : List T) : (fl en L).map dat0 = fl en L := by
 induction L with
 | nil => rfl
 | cons a L ih =>
  show ((en a) ++ fl en L).map dat0 = (en a) ++ fl en L
  rw [List.map_append, ih, hd]
theorem zeG (hd : ∀ e, (en e).map dat0 = en e) : ∀ L : List T, zJ (fl en L) n L.length = L.map en
 | [] => rfl
 | a :: L => by
  show ((((en a) ++ fl en L).take n).map dat0) :: zJ (((en a) ++ fl en L).drop n) n L.length = en a :: L.map en
  have e1 : ((en a) ++ fl en L).take n = en a := by rw [<- hl a, List.take_left]
  have e2 : ((en a) ++ fl en L).drop n = fl en L := by rw [<- hl a, List.drop_left]
  rw [e1, e2, hd, zeG hd L]
theorem zf5 (hd : ∀ e, (en e).map dat0 = en e) (L : List T) (k : Nat) (hk : k = L.length) : zJ ((fl en L).take (k * n)) n k = L.map en := by
 rw [zhM en n hl L k hk, hk, zeG en n hl hd L]
theorem zoP (L : List T) (i j : Nat) (h : i < L.length) (new : List AV) (b : T) (hb : splice (en L[i]) j new = en b) (hj : j + new.length <= n) : splice (fl en L) (i * n + j) new = fl en (L.set i b) := by
 have hlen : i * n + j + new.length <= (fl en L).length := by
  rw [zbI en n hl]
  have : (i + 1) * n <= L.length * n := Nat.mul_le_mul_right n h
  rw [Nat.succ_mul] at this
  omega
 refine List.ext_getElem? fun k => ?_
 rw [Jr new _ _ hlen]
 by_cases hn : n = 0
 ·have e1 : ∀ L' : List T, fl en L' = [] := fun L' => List.eq_nil_of_length_eq_zero (by rw [zbI en n hl, hn, Nat.mul_zero])
  rw [e1, e1]
  have : ¬ (i * n + j <= k /\ k < i * n + j + new.length) := by omega
  rw [if_neg this]
 have hpos : 0 < n := Nat.pos_of_ne_zero hn
 by_cases hk : k < L.length * n
 ·obtain ⟨q, r, hq, hr, rfl⟩ : ∃ q r, q < L.length /\ r < n /\ k = q * n + r := ⟨k / n, k % n, (Nat.div_lt_iff_lt_mul hpos).2 hk, Nat.mod_lt _ hpos, by rw [Nat.mul_comm]; exact (Nat.div_add_mod k n).symm⟩
  rw [zvj en n hl L q r hq hr, zvj en n hl (L.set i b) q r (by simpa using hq) hr, List.getElem_set]
  by_cases e : i = q
  ·subst e
   simp only [if_true]
   rw [<- hb, Jr new _ _ (by rw [hl]; exact hj)]
   have c : (i * n + j <= i * n + r /\ i * n + r < i * n + j + new.length) ↔ (j <= r /\ r < j + new.length) := by omega
   by_cases c2 : j <= r /\ r < j + new.length
   ·rw [if_pos (c.2 c2), if_pos c2]
    congr 1
    omega
   ·rw [if_neg (fun x => c2 (c.1 x)), if_neg c2]
  ·rw [if_neg e, if_neg]
   rintro ⟨c1, c2⟩
   rcases Nat.lt_or_gt_of_ne e with h1 | h1
   ·have : (i + 1) * n <= q * n := Nat.mul_le_mul_right n h1
    rw [Nat.succ_mul] at this
    omega
   ·have : (q + 1) * n <= i * n := Nat.mul_le_mul_right n h1
    rw [Nat.succ_mul] at this
    omega
 ·have e1 : (fl en L)[k]? = none := List.getElem?_eq_none (by rw [zbI en n hl]; omega)
  have e2 : (fl en (L.set i b))[k]? = none := List.getElem?_eq_none (by rw [zbI en n hl, List.length_set]; omega)
  have : ¬ (i * n + j <= k /\ k < i * n + j + new.length) := by
   rw [zbI en n hl] at hlen
   omega
  rw [if_neg this, e1, e2]
end
end Go.Proofs.YthdgnfcbehcplaaDoor
end
section
namespace Go.Proofs.YthdgnfcbehcplaaDoor
@[reducible] def nmE (e : RT0) : RT1 := (e.1, e.2.1, e.2.2.1, e.2.2.2.1, e.2.2.2.2.1, e.2.2.2.2.2.1, e.2.2.2.2.2.2.1, e.2.2.2.2.2.2.2.1, e.2.2.2.2.2.2.2.2.1, ())
@[reducible] def pkE (e : RT0) : List (List AV) := e.2.2.2.2.2.2.2.2.2.1
@[reducible] def loE (e : RT0) : Int := e.2.2.2.2.2.2.2.2.2.2.2.2.2.2.2.2.2.2.2.2.2.2.1
@[reducible] def hiE (e : RT0) : Int := e.2.2.2.2.2.2.2.2.2.2.2.2.2.2.2.2.2.2.2.2.2.2.2.1
def z10 (c : Nat) : zp2 := ((⟨#[]⟩ : ByteArray), (⟨#[]⟩ : ByteArray), (⟨#[]⟩ : ByteArray), (⟨#[]⟩ : ByteArray), 0, 0, 0, 0, 0, c, 0, 0, 0, 0, 0, 0, 0, 0, 0, 0, 0, 0, 0, 0, 0, ())
def z8 : RT8 := ((⟨#[]⟩ : ByteArray), (⟨#[]⟩ : ByteArray), (⟨#[]⟩ : ByteArray), (⟨#[]⟩ : ByteArray), 0, 0, 0, 0, 0, ([] : List (List AV)), 0, 0, 0, 0, 0, 0, 0, 0, 0, 0, 0, 0, 0, 0, 0, ())
def AB : ByteArray := ⟨#[65, 66]⟩
def LC : ByteArray := ⟨#[48, 48]⟩
def CH : ByteArray := ⟨#[66, 72, 90]⟩
def st : Nat -> ByteArray
 | 0 => ⟨#[83, 49]⟩
 | 1 => ⟨#[83, 50]⟩
 | 2 => ⟨#[83, 51]⟩
 | _ => ⟨#[83, 52]⟩
theorem zA2 (k : Nat) (h : k < 4) : ztC 600 (k : Int) = some (AB, st k, LC, CH, ()) := by
 rcases (show k = 0 \/ k = 1 \/ k = 2 \/ k = 3 by omega) with rfl | rfl | rfl | rfl <;> kernel_rfl
theorem zqb {xs : List Int} {p : Int} (D : Sc xs p) : ∃ x y z p', zyW 600 (20, zA xs, p) = some (x, y, z, zA xs, p') /\ Sc xs p' := by
 obtain ⟨v1, p1, h1, m1, D1⟩ := zdR 600 (n := 41) (by omega) D
 obtain ⟨v2, p2, h2, m2, D2⟩ := zdR 600 (n := 41) (by omega) D1
 obtain ⟨v3, p3, h3, m3, D3⟩ := zdR 600 (n := 21) (by omega) D2
 simp only [zyW, FSpec.d, zzm]
 have e1 : i64 (i64 (2 * 20) + 1) = 41 := by decide
 have e2 : i64 (20 + 1) = 21 := by decide
 simp only [e1, e2, h1, h2, h3]
 exact ⟨_, _, _, _, rfl, D3⟩
def zh3 (k : Nat) (p : RT1) : Prop := p.1 = AB /\ p.2.1 = st k /\ p.2.2.1 = LC /\ p.2.2.2.1 = CH /\ p.2.2.2.2.2.2.2.2.1 = 0
theorem fl1 (L : List RT1) : (fl zw L).map dat0 = fl zw L := zwa zw (fun _ => rfl) L
theorem fl0 (L : List RT0) : (fl zB L).map dat0 = fl zB L := zwa zB (fun _ => rfl) L
theorem zvl (L : List RT1) : (fl zw L).length = L.length * 9 := zbI zw 9 zaP L
theorem zBO (L : List RT0) : (fl zB L).length = L.length * 25 := zbI zB 25 zfp L
theorem app1 (L : List RT1) (a : RT1) (k : Nat) (hk : k = L.length) : (fl zw L).take (k * 9) ++ [zw a].flatten = fl zw (L ++ [a]) := by
 rw [zhM zw 9 zaP L k hk, <- zvP]; simp
theorem app0 (L : List RT0) (a : RT0) (k : Nat) (hk : k = L.length) : (fl zB L).take (k * 25) ++ [zB a].flatten = fl zB (L ++ [a]) := by
 rw [zhM zB 25 zfp L k hk, <- zvP]; simp
theorem zym (t : Int) {xs : List Int} (ht : 0 <= t /\ t <= 100000) : ∀ (m k f : Nat) (p : Int) (L : List RT1), k + m = 4 -> m < f -> Sc xs p -> L.length = k -> (∀ i (h : i < L.length), zh3 i L[i]) ->
  ∃ (L' : List RT1) (p' : Int), (je 600).L f (1, t, (k : Int), zA xs, p, z8, z10 k, fl zw L) = some (t, zA xs, p', z8, z10 L'.length, fl zw L') /\ (1 <= L'.length /\ L'.length <= 4) /\ (∀ i (h : i < L'.length), zh3 i L'[i]) /\ Sc xs p' := by
 intro m
 induction m with
 | zero =>
  intro k f p L hk hf D hl hL
  obtain ⟨f, rfl⟩ := pS hf
  obtain ⟨v, p1, h1, m1, D1⟩ := zdR 600 (n := 4) (by omega) D
  refine ⟨L, p1, ?_, by omega, hL, D1⟩
  show (je 600).b _ _ ((je 600).L f) some = _
  simp only [je]
  have e1 : i64 (1 + v) = 1 + v := Zz (by omega)
  have e2 : decide ((k : Int) < 1 + v) = false := dF (by omega)
  simp only [h1, e1, e2, fl1, hl]
 | succ m ih =>
  intro k f p L hk hf D hl hL
  obtain ⟨f, rfl⟩ := pS hf
  obtain ⟨v, p1, h1, m1, D1⟩ := zdR 600 (n := 4) (by omega) D
  have e1 : i64 (1 + v) = 1 + v := Zz (by omega)
  by_cases hc : (k : Int) < 1 + v
  ·obtain ⟨u, p2, h2, m2, D2⟩ := zdR 600 (n := 3) (by omega) D1
   have hs := zA2 k (by omega)
   obtain ⟨q, hq⟩ : ∃ q : RT1, q = (AB, st k, LC, CH, t + 10, t + 10, t + 10 + u, 1, 0, ()) := ⟨_, rfl⟩
   have hfin : ∀ i (h : i < (L ++ [q]).length), zh3 i (L ++ [q])[i] := fun i h => by
    rw [List.getElem_append]
    split
    ·exact hL i _
    ·simp at h
     obtain rfl : i = k := by omega
     simp [hl, hq, zh3]
   obtain ⟨L', p', r1, r2, r3, r4⟩ := ih (k + 1) f p2 (L ++ [q]) (by omega) (by omega) D2 (by simp [hl]) hfin
   refine ⟨L', p', ?_, r2, r3, r4⟩
   show (je 600).b _ _ ((je 600).L f) some = _
   generalize (je 600).L f = Lf at r1 |-
   simp only [je]
   have e2 : decide ((k : Int) < 1 + v) = true := dT (by omega)
   have e3 : i64 (10 * 1) = 10 := by decide
   have e4 : i64 (t + 10) = t + 10 := Zz (by omega)
   have e5 : i64 (t + 10 + u) = t + 10 + u := Zz (by omega)
   have e6 : i64 ((k : Int) + 1) = ((k + 1 : Nat) : Int) := by rw [Zz (by omega)]; omega
   have hb : ((z10 k).2.2.2.2.2.2.2.2.2.1 * 9 <= (fl zw L).length /\ ((z10 k).2.2.2.2.2.2.2.2.2.1 + [zw q].length) * 104 <= zh) := by
    rw [zvl]; unfold zh z10; simp; omega
   simp only [h1, e1, e2, hs, h2, e3, e4, e5, e6, <- hq, hb, if_true, and_self]
   rw [app1 L q _ (show (z10 k).2.2.2.2.2.2.2.2.2.1 = _ from hl.symm), fl1]
   exact r1
  ·refine ⟨L, p1, ?_, by omega, hL, D1⟩
   show (je 600).b _ _ ((je 600).L f) some = _
   simp only [je]
   have e2 : decide ((k : Int) < 1 + v) = false := dF (by omega)
   simp only [h1, e1, e2, fl1, hl]
theorem zCz {xs : List Int} {p : Int} (D : Sc xs p) : ∃ (e : zxi) (L : List RT1) (p' : Int), znc 600 (1, zA xs, p) = some (e, zA xs, p', fl zw L) /\ e.2.2.2.2.2.2.2.2.2.1 = L.length /\ (1 <= L.length /\ L.length <= 4) /\ (∀ i (h : i < L.length), zh3 i L[i]) /\ e.2.2.2.2.2.2.2.2.2.2.2.2.2.2.2.2.2.2.2.2.2.2.1 <= e.2.2.2.2.2.2.2.2.2.2.2.2.2.2.2.2.2.2.2.2.2.2.2.1 /\ Sc xs p' := by
 obtain ⟨v, p1, h1, m1, D1⟩ := zdR 600 (n := 300) (by omega) D
 have e1 : i64 (1000 + v) = 1000 + v := Zz (by omega)
 obtain ⟨L, p2, h2, hl, hL, D2⟩ := zym (1000 + v) (by omega) 4 0 600 p1 [] rfl (by omega) D1 rfl (fun i h => by cases h)
 obtain ⟨x, y, z, p3, h3, D3⟩ := zqb D2
 obtain ⟨u4, p4, h4, m4, D4⟩ := zdR 600 (n := 40) (by omega) D3
 obtain ⟨u5, p5, h5, m5, D5⟩ := zxX 600 [0, 0, 5, 500] (by simp) D4
 replace h5 : zuF 600 ([[AV.v (.int .i64 0)], [AV.v (.int .i64 0)], [AV.v (.int .i64 5)], [AV.v (.int .i64 500)]], zA xs, p4) = some (u5, zA xs, p5) := h5
 obtain ⟨u6, p6, h6, m6, D6⟩ := zdR 600 (n := 3) (by omega) D5
 replace h2 : (je 600).L 600 (1, 1000 + v, 0, zA xs, p1, z8, z10 0, []) = some (1000 + v, zA xs, p2, z8, z10 L.length, fl zw L) := h2
 unfold z8 z10 at h2
 simp only [znc, FSpec.d, zwg]
 have hd : (fl zw L).drop ((0 + Int.toNat 0) * 9) = zw L[0] ++ fl zw (L.drop 1) := zir zw 9 zaP L 0 0 (by omega) (by omega)
 have hz : (0 <= (0 : Int) /\ (0 : Int) < (L.length : Int)) := by omega
 simp only [h1, e1, zn9, h2, hz, and_self, if_true, hd, zit, h3, h4, h5, h6]
 by_cases hc : u6 > 0
 ·obtain ⟨u7, p7, h7, m7, D7⟩ := zdR 600 (n := 400) (by omega) D6
  obtain ⟨u8, p8, h8, m8, D8⟩ := zdR 600 (n := 60) (by omega) D7
  simp only [hc, decide_true, h7, h8, fl1]
  have e9 : i64 (u7 + u8) = u7 + u8 := Zz (by omega)
  simp only [e9]
  exact ⟨_, _, _, rfl, rfl, hl, hL, by dsimp only; omega, D8⟩
 ·simp only [hc, decide_false, fl1]
  exact ⟨_, _, _, rfl, rfl, hl, hL, Int.le_refl 0, D6⟩
def pick (n i : Nat) : RT1 := (AB, st i, LC, CH, 1000 + 400 * n + i, 1000 + 400 * n + i, 1000 + 400 * n + i + 2, 7, 0, ())
def pks (n f c : Nat) : List RT1 := (List.range' f (c - f)).map (pick n)
theorem Jg (n f c : Nat) : (pks n f c).length = c - f := by simp [pks]
theorem zr9 (n i : Nat) : zh3 i (pick n i) := ⟨rfl, rfl, rfl, rfl, rfl⟩
theorem zfs (L : List RT1) (k j : Nat) (hk : k < L.length) (hj : j < 9) (a : AV) (b : RT1) (hb : splice (zw L[k]) j [a] = zw b) : splice (fl zw L) ((0 + ((k : Int)).toNat) * 9 + j) [a] = fl zw (L.set k b) := by
 rw [Nat.zero_add, Int.toNat_natCast]
 exact zoP zw 9 zaP L k j hk [a] b hb (by simp; omega)
theorem zqz (m : Int) (cnt n : Nat) (e : zxi) (ob : List AV) (hob : ob.map dat0 = ob) {xs : List Int} (hn : n <= 100) : ∀ (d k f : Nat) (p : Int) (L : List RT1), k + d = L.length -> d < f -> L.length <= 4 -> e.2.2.2.2.2.2.2.2.2.1 = L.length -> (∀ i (h : i < L.length), zh3 i L[i]) -> (∀ i (h : i < L.length), i < k -> L[i] = pick n i) ->
  (zap 600).L f (m, cnt, (n : Int), (L.length : Int), (k : Int), zA xs, p, e, fl zw L, ob) = some (m, cnt, (n : Int), zA xs, p, e, fl zw (pks n 0 L.length), ob) := by
 intro d
 induction d with
 | zero =>
  intro k f p L hk hf hL he hO hP
  obtain ⟨f, rfl⟩ := pS hf
  show (zap 600).b _ _ ((zap 600).L f) some = _
  simp only [zap]
  have e2 : decide ((k : Int) < L.length) = false := dF (by omega)
  have e3 : L = pks n 0 L.length := by
   refine List.ext_getElem (by simp [pks]) fun i h1 h2 => ?_
   rw [hP i h1 (by omega)]
   simp [pks]
  simp only [e2, fl1, hob]
  rw [<- e3]
 | succ d ih =>
  intro k f p L hk hf hL he hO hP
  obtain ⟨f, rfl⟩ := pS hf
  have hkl : k < L.length := by omega
  obtain ⟨o1, o2, o3, o4, o5⟩ := hO k hkl
  obtain ⟨q, hq⟩ : ∃ q, L[k] = q := ⟨_, rfl⟩
  rw [hq] at o1 o2 o3 o4 o5
  obtain ⟨q1, q2, q3, q4, q5, q6, q7, q8, q9, _⟩ := q
  subst o1 o2 o3 o4 o5
  have ih' := ih (k + 1) f p (L.set k (pick n k)) (by simp; omega) (by omega) (by simpa using hL) (by simpa using he) (fun i h => by
   rw [List.getElem_set]
   split
   ·rename_i e; subst e; exact zr9 n _
   ·exact hO i (by simpa using h)) (fun i h hi => by
   rw [List.getElem_set]
   split
   ·rename_i e; subst e; rfl
   ·exact hP i (by simpa using h) (by omega))
  rw [List.length_set] at ih'
  show (zap 600).b _ _ ((zap 600).L f) some = _
  obtain ⟨Lf, hLf⟩ : ∃ Lf, Lf = (zap 600).L f := ⟨_, rfl⟩
  rw [<- hLf] at ih' |-
  simp only [zap]
  have e2 : decide ((k : Int) < L.length) = true := dT (by omega)
  have e3 : i64 (400 * (n : Int)) = 400 * n := Zz (by omega)
  have e4 : i64 (1000 + 400 * (n : Int)) = 1000 + 400 * n := Zz (by omega)
  have e5 : i64 (1000 + 400 * (n : Int) + k) = 1000 + 400 * n + k := Zz (by omega)
  have e6 : i64 (1000 + 400 * (n : Int) + k + 2) = 1000 + 400 * n + k + 2 := Zz (by omega)
  have e7 : i64 ((k : Int) + 1) = ((k + 1 : Nat) : Int) := by rw [Zz (by omega)]; omega
  have hz : (0 <= (k : Int) /\ (k : Int) < (L.length : Int)) := by omega
  have s1 := zfs L k 4 hkl (by omega) (AV.v (.int .i64 (1000 + 400 * n + k))) (AB, st k, LC, CH, 1000 + 400 * n + k, q6, q7, q8, 0, ()) (by rw [hq]; rfl)
  have s2 := zfs (L.set k (AB, st k, LC, CH, 1000 + 400 * n + k, q6, q7, q8, 0, ())) k 5 (by simpa using hkl) (by omega) (AV.v (.int .i64 (1000 + 400 * n + k))) (AB, st k, LC, CH, 1000 + 400 * n + k, 1000 + 400 * n + k, q7, q8, 0, ()) (by rw [List.getElem_set_self]; rfl)
  have s3 := zfs (L.set k (AB, st k, LC, CH, 1000 + 400 * n + k, 1000 + 400 * n + k, q7, q8, 0, ())) k 6 (by simpa using hkl) (by omega) (AV.v (.int .i64 (1000 + 400 * n + k + 2))) (AB, st k, LC, CH, 1000 + 400 * n + k, 1000 + 400 * n + k, 1000 + 400 * n + k + 2, q8, 0, ()) (by rw [List.getElem_set_self]; rfl)
  have s4 := zfs (L.set k (AB, st k, LC, CH, 1000 + 400 * n + k, 1000 + 400 * n + k, 1000 + 400 * n + k + 2, q8, 0, ())) k 7 (by simpa using hkl) (by omega) (AV.v (.int .i64 7)) (pick n k) (by rw [List.getElem_set_self]; rfl)
  rw [List.set_set] at s2 s3 s4
  have g : ∀ (L' : List RT1) (j : Nat), L'.length = L.length -> j < 9 -> (0 + ((k : Int)).toNat) * 9 + j + 1 <= (fl zw L').length := fun L' j h1 h2 => by
   rw [zvl, h1, Nat.zero_add, Int.toNat_natCast]; omega
  simp only [e2, e3, e4, e5, e6, e7, he, hz, and_self, if_true, s1, s2, s3, s4, g L 4 rfl (by omega), g _ 5 (List.length_set) (by omega), g _ 6 (List.length_set) (by omega), g _ 7 (List.length_set) (by omega), fl1, hob]
  exact ih'
def EvAt (n : Nat) (e : RT0) : Prop := ∃ f c, f < c /\ c <= 4 /\ f <= 1 /\ nmE e = pick n f /\ pkE e = (pks n f c).map zw /\ loE e <= hiE e
def Evs (lo hi : Nat) : List RT0 -> Prop
 | [] => lo <= hi
 | e :: r => ∃ n, lo <= n /\ EvAt n e /\ Evs (n + 1) hi r
theorem Evs.mono : ∀ {L : List RT0} {lo hi hi' : Nat}, Evs lo hi L -> hi <= hi' -> Evs lo hi' L
 | [], lo, hi, hi', h, hh => Nat.le_trans h hh
 | e :: r, lo, hi, hi', h, hh => by
  obtain ⟨n, h1, h2, h3⟩ := h
  exact ⟨n, h1, h2, h3.mono hh⟩
theorem Evs.snoc : ∀ {L : List RT0} {lo n : Nat} {e : RT0}, Evs lo n L -> EvAt n e -> Evs lo (n + 1) (L ++ [e])
 | [], lo, n, e, h, he => ⟨n, h, he, Nat.le_refl _⟩
 | a :: r, lo, n, e, h, he => by
  obtain ⟨m, h1, h2, h3⟩ := h
  exact ⟨m, h1, h2, h3.snoc he⟩
theorem zjm (n r c : Nat) (h : r <= c) : (fl zw (pks n 0 c)).drop (r * 9) = fl zw (pks n r c) := by
 have e : pks n 0 c = pks n 0 r ++ pks n r c := by
  unfold pks
  rw [<- List.map_append, Nat.sub_zero, Nat.sub_zero]
  congr 1
  rw [show c = r + (c - r) by omega, <- List.range'_append_1]
  simp
 rw [e]
 unfold fl
 rw [List.map_append, List.flatten_append]
 have := zvl (pks n 0 r)
 unfold fl at this
 rw [Jg, Nat.sub_zero] at this
 rw [<- this, List.drop_left]
theorem zus (m : Nat) {xs : List Int} (hm : m <= 20) : ∀ (d n f : Nat) (p : Int) (A : List RT0), n + d = m -> d < f -> Sc xs p -> A.length <= n -> Evs 0 n A ->
  ∃ (A' : List RT0) (p' : Int), (zaN 600).L f (A.length, (m : Int), (n : Int), zA xs, p, fl zB A) = some (A'.length, zA xs, p', fl zB A') /\ A'.length <= m /\ Evs 0 m A' /\ Sc xs p' := by
 intro d
 induction d with
 | zero =>
  intro n f p A hk hf D hA hE
  obtain ⟨f, rfl⟩ := pS hf
  refine ⟨A, p, ?_, by omega, by rw [<- hk]; exact hE, D⟩
  show (zaN 600).b _ _ ((zaN 600).L f) some = _
  simp only [zaN]
  have e2 : decide ((n : Int) < (m : Int)) = false := dF (by omega)
  simp only [e2, fl0]
 | succ d ih =>
  intro n f p A hk hf D hA hE
  obtain ⟨f, rfl⟩ := pS hf
  have e2 : decide ((n : Int) < (m : Int)) = true := dT (by omega)
  have e7 : i64 ((n : Int) + 1) = ((n + 1 : Nat) : Int) := by rw [Zz (by omega)]; omega
  obtain ⟨v, p1, h1, m1, D1⟩ := zdR 600 (n := 3) (by omega) D
  by_cases hv : v = 0
  ·obtain ⟨A', p', r1, r2, r3, r4⟩ := ih (n + 1) f p1 A (by omega) (by omega) D1 (by omega) (hE.mono (by omega))
   refine ⟨A', p', ?_, r2, r3, r4⟩
   show (zaN 600).b _ _ ((zaN 600).L f) some = _
   generalize (zaN 600).L f = Lf at r1 |-
   simp only [zaN]
   have e3 : (v == 0) = true := by simp [hv]
   simp only [e2, h1, e3, e7, fl0]
   exact r1
  ·have e3 : (v == 0) = false := by simp [hv]
   obtain ⟨e, L, p2, h2, hl, hl2, hL, hlo, D2⟩ := zCz D1
   have h3 := zqz (m : Int) A.length n e (fl zB A) (fl0 A) (xs := xs) (by omega) L.length 0 600 p2 L (by omega) (by omega) (by omega) hl hL (fun i h hi => by omega)
   replace h3 : (zap 600).L 600 ((m : Int), A.length, (n : Int), (L.length : Int), 0, zA xs, p2, e, fl zw L, fl zB A) = some ((m : Int), A.length, (n : Int), zA xs, p2, e, fl zw (pks n 0 L.length), fl zB A) := h3
   obtain ⟨w, p3, h4, m4, D3⟩ := zdR 600 (n := 2) (by omega) D2
   have e4 : i64 (((L.length : Nat) : Int) - 1) = ((L.length - 1 : Nat) : Int) := by rw [Zz (by omega)]; omega
   obtain ⟨r, hr⟩ : ∃ r : Nat, (if ((L.length - 1 : Nat) : Int) < w then ((L.length - 1 : Nat) : Int) else w) = (r : Int) /\ r <= 1 /\ r < L.length := by
    by_cases hc : ((L.length - 1 : Nat) : Int) < w
    ·exact ⟨L.length - 1, by rw [if_pos hc], by omega, by omega⟩
    ·exact ⟨w.toNat, by rw [if_neg hc]; omega, by omega, by omega⟩
   obtain ⟨hr, hr1, hr2⟩ := hr
   obtain ⟨q, hq⟩ : ∃ q : RT0, q = ((pick n r).1, (pick n r).2.1, (pick n r).2.2.1, (pick n r).2.2.2.1, (pick n r).2.2.2.2.1, (pick n r).2.2.2.2.2.1, (pick n r).2.2.2.2.2.2.1, (pick n r).2.2.2.2.2.2.2.1, (pick n r).2.2.2.2.2.2.2.2.1, (pks n r L.length).map zw, e.2.2.2.2.2.2.2.2.2.2) := ⟨_, rfl⟩
   have hqe : EvAt n q := ⟨r, L.length, hr2, hl2.2, hr1, by rw [hq], by rw [hq], by rw [hq]; exact hlo⟩
   obtain ⟨A', p', r1, r2, r3, r4⟩ := ih (n + 1) f p3 (A ++ [q]) (by omega) (by omega) D3 (by simp; omega) (hE.snoc hqe)
   refine ⟨A', p', ?_, r2, r3, r4⟩
   show (zaN 600).b _ _ ((zaN 600).L f) some = _
   generalize (zaN 600).L f = Lf at r1 |-
   rw [List.length_append] at r1
   simp only [zaN]
   have hz1 : (0 <= (r : Int) /\ (r : Int) <= (L.length : Int)) := by omega
   have hz2 : (0 <= (0 : Int) /\ (0 : Int) < ((L.length - r : Nat) : Int)) := by omega
   have hd1 : (fl zw (pks n 0 L.length)).drop ((0 + r + Int.toNat 0) * 9) = zw (pick n r) ++ fl zw (pks n (r + 1) L.length) := by
    rw [show (0 + r + Int.toNat 0) * 9 = r * 9 by simp, zjm n r _ (by omega)]
    have : pks n r L.length = pick n r :: pks n (r + 1) L.length := by
     unfold pks
     rw [show L.length - r = (L.length - (r + 1)) + 1 by omega, List.range'_succ]
     rfl
    rw [this]
    rfl
   have hd2 : J1 (0 + r) 9 (fl zw (pks n 0 L.length)) = fl zw (pks n r L.length) := by
    rw [zjc, Nat.zero_add, zjm n r _ (by omega)]
   have hg1 : (L.length - r) * 9 <= (fl zw (pks n r L.length)).length := by rw [zvl, Jg]; omega
   have hch : zJ ((fl zw (pks n r L.length)).take ((L.length - r) * 9)) 9 (L.length - r) = (pks n r L.length).map zw := zf5 zw 9 zaP (fun _ => rfl) _ _ (by rw [Jg])
   have hg2 : (A.length * 25 <= (fl zB A).length /\ (A.length + [zB q].length) * 248 <= zh) := by
    rw [zBO]; unfold zh; simp; omega
   simp only [e2, h1, e3, h2, hl, fl1, fl0, h3, h4, e4, hr, hz1, Int.toNat_natCast, hz2, and_self, if_true, hd1, zit, hd2, hg1, hch]
   simp only [<- hq, hg2, and_self, if_true, e7]
   rw [app0 A q _ rfl, fl0]
   exact r1
theorem zl1 (m : Nat) (hm : m <= 20) {xs : List Int} {p : Int} (D : Sc xs p) : ∃ (A : List RT0) (p' : Int), zwF 600 ((m : Int), zA xs, p) = some (A.map zB, zA xs, p') /\ A.length <= m /\ Evs 0 m A /\ Sc xs p' := by
 obtain ⟨A, p', h1, h2, h3, h4⟩ := zus m hm m 0 600 p [] (by omega) (by omega) D (by simp) (Nat.le_refl 0)
 refine ⟨A, p', ?_, h2, h3, h4⟩
 replace h1 : (zaN 600).L 600 (0, (m : Int), 0, zA xs, p, []) = some (A.length, zA xs, p', fl zB A) := h1
 simp only [zwF, FSpec.d, zEc, zBd, h1]
 have hg : A.length * 25 <= (fl zB A).length := by rw [zBO]; exact Nat.le_refl _
 simp only [hg, if_true, zf5 zB 25 zfp (fun _ => rfl) A _ rfl]
end Go.Proofs.YthdgnfcbehcplaaDoor
end
section
namespace Go.Proofs.YthdgnfcbehcplaaDoor
@[reducible] def eqP (a b : RT1) : Bool := (((a.1 == b.1) && ((a.2.1 == b.2.1) && ((a.2.2.1 == b.2.2.1) && ((a.2.2.2.1 == b.2.2.2.1) && true)))) && ((a.2.2.2.2.1 == b.2.2.2.2.1) && ((a.2.2.2.2.2.1 == b.2.2.2.2.2.1) && ((a.2.2.2.2.2.2.1 == b.2.2.2.2.2.2.1) && ((a.2.2.2.2.2.2.2.1 == b.2.2.2.2.2.2.2.1) && ((a.2.2.2.2.2.2.2.2.1 == b.2.2.2.2.2.2.2.2.1) && true))))))
theorem zvB {a b : ByteArray} : (a == b) = true ↔ a = b := by
 constructor
 ·intro h
  obtain ⟨x⟩ := a
  obtain ⟨y⟩ := b
  have : (x == y) = true := h
  rw [eq_of_beq this]
 ·rintro rfl
  obtain ⟨x⟩ := a
  exact beq_self_eq_true x
theorem JW (a : RT1) : eqP a a = true := by
 simp only [eqP, Bool.and_eq_true, beq_self_eq_true, zvB, and_self]
theorem zwL {a b : RT1} (h : eqP a b = true) : a = b := by
 obtain ⟨a1, a2, a3, a4, a5, a6, a7, a8, a9, a10⟩ := a
 obtain ⟨b1, b2, b3, b4, b5, b6, b7, b8, b9, b10⟩ := b
 simp only [eqP, Bool.and_eq_true, beq_iff_eq, zvB] at h
 obtain ⟨⟨h1, h2, h3, h4, -⟩, h5, h6, h7, h8, h9, -⟩ := h
 subst h1 h2 h3 h4 h5 h6 h7 h8 h9
 rfl
theorem zaT {a b : RT1} (h : a ≠ b) : eqP a b = false := by
 cases e : eqP a b with
 | false => rfl
 | true => exact absurd (zwL e) h
theorem zd3 (P : List RT1) (k : Nat) (h : k < P.length) : (P.map zw)[k]? = some (zw P[k]) := by simp [h]
theorem zcx (P : List RT0) (k : Nat) (h : k < P.length) : (P.map zB)[k]? = some (zB P[k]) := by simp [h]
theorem zt {α : Type} {P : List α} {k : Nat} (h : k < P.length) (p : α) : p ∈ P.drop k ↔ p = P[k] \/ p ∈ P.drop (k + 1) := by
 rw [List.drop_eq_getElem_cons h, List.mem_cons]
theorem zp {k : Nat} (h : k < 1000000) : i64 ((k : Int) + 1) = ((k + 1 : Nat) : Int) := by rw [Zz (by omega)]; omega
theorem zlb (P : List RT1) (p : RT1) (hP : P.length <= 500) : ∀ (d k f : Nat), k + d = P.length -> d < f -> ∃ y, (Z5 600).L f (P.map zw, (P.length : Int), (k : Int), p) = some y /\ ((p ∈ P.drop k /\ ∃ j : Nat, y = .inl (j : Int)) \/ (p ∉ P.drop k /\ y = .inr ())) := by
 intro d
 induction d with
 | zero =>
  intro k f hk hf
  obtain ⟨f, rfl⟩ := pS hf
  refine ⟨.inr (), ?_, .inr ⟨by rw [List.drop_eq_nil_of_le (by omega)]; simp, rfl⟩⟩
  show (Z5 600).b _ _ ((Z5 600).L f) some = _
  simp only [Z5]
  have e2 : decide ((k : Int) < (P.length : Int)) = false := dF (by omega)
  simp only [e2]
 | succ d ih =>
  intro k f hk hf
  obtain ⟨f, rfl⟩ := pS hf
  have hkl : k < P.length := by omega
  have e2 : decide ((k : Int) < (P.length : Int)) = true := dT (by omega)
  have e3 : (0 : Int) <= (k : Int) := by omega
  by_cases hc : p = P[k]
  ·refine ⟨.inl (k : Int), ?_, .inl ⟨(zt hkl p).2 (.inl hc), k, rfl⟩⟩
   show (Z5 600).b _ _ ((Z5 600).L f) some = _
   simp only [Z5]
   have e4 : eqP p P[k] = true := by rw [<- hc]; exact JW p
   simp only [e2, e3, if_true, Int.toNat_natCast, zd3 P k hkl, ZW, e4]
  ·obtain ⟨y, r1, r2⟩ := ih (k + 1) f (by omega) (by omega)
   refine ⟨y, ?_, ?_⟩
   ·show (Z5 600).b _ _ ((Z5 600).L f) some = _
    generalize (Z5 600).L f = Lf at r1 |-
    simp only [Z5]
    have e4 : eqP p P[k] = false := zaT hc
    simp only [e2, e3, if_true, Int.toNat_natCast, zd3 P k hkl, ZW, e4, zp (show k < 1000000 by omega)]
    exact r1
   ·rcases r2 with ⟨h1, h2⟩ | ⟨h1, h2⟩
    ·exact .inl ⟨(zt hkl p).2 (.inr h1), h2⟩
    ·exact .inr ⟨fun h => ((zt hkl p).1 h).elim hc h1, h2⟩
theorem zh0 (P : List RT1) (p : RT1) (hP : P.length <= 500) : ∃ b, zxQ 600 (P.map zw, p) = some b /\ (b = true ↔ p ∈ P) := by
 obtain ⟨y, h1, h2⟩ := zlb P p hP P.length 0 600 (by omega) (by omega)
 replace h1 : (Z5 600).L 600 (P.map zw, (P.length : Int), 0, p) = some y := h1
 rw [List.drop_zero] at h2
 simp only [zxQ, FSpec.d, zle, zAU, zjR, zv5, List.length_map, h1]
 rcases h2 with ⟨h2, j, rfl⟩ | ⟨h2, rfl⟩
 ·exact ⟨_, rfl, by simp [h2]⟩
 ·exact ⟨_, rfl, by simp [h2]⟩
def Com (P Q : List RT1) : Prop := ∃ p ∈ P, p ∈ Q
theorem zhY (P Q : List RT1) (e : RT0) (he : pkE e = Q.map zw) (hP : P.length <= 500) (hQ : Q.length <= 500) : ∀ (d k f : Nat), k + d = P.length -> d < f -> ∃ y, (Z4 600).L f (P.map zw, (P.length : Int), (k : Int), e) = some y /\ ((Com (P.drop k) Q /\ ∃ j : Nat, y = .inl ((j : Int), e)) \/ (¬ Com (P.drop k) Q /\ y = .inr e)) := by
 intro d
 induction d with
 | zero =>
  intro k f hk hf
  obtain ⟨f, rfl⟩ := pS hf
  refine ⟨.inr e, ?_, .inr ⟨by (rw [List.drop_eq_nil_of_le (by omega)]; rintro ⟨p, h, -⟩; cases h), rfl⟩⟩
  show (Z4 600).b _ _ ((Z4 600).L f) some = _
  simp only [Z4]
  have e2 : decide ((k : Int) < (P.length : Int)) = false := dF (by omega)
  simp only [e2]
 | succ d ih =>
  intro k f hk hf
  obtain ⟨f, rfl⟩ := pS hf
  have hkl : k < P.length := by omega
  have e2 : decide ((k : Int) < (P.length : Int)) = true := dT (by omega)
  have e3 : (0 : Int) <= (k : Int) := by omega
  obtain ⟨b, hb, hb2⟩ := zh0 Q P[k] hQ
  rw [<- he] at hb
  have hs : zxV 600 (P[k], e) = some (b, e) := by
   simp only [zxV, FSpec.d, zkU]
   simp only [hb]
  cases b with
  | true =>
   refine ⟨.inl ((k : Int), e), ?_, .inl ⟨⟨P[k], (zt hkl _).2 (.inl rfl), hb2.1 rfl⟩, k, rfl⟩⟩
   show (Z4 600).b _ _ ((Z4 600).L f) some = _
   simp only [Z4]
   simp only [e2, e3, if_true, Int.toNat_natCast, zd3 P k hkl, ZW, hs]
  | false =>
   obtain ⟨y, r1, r2⟩ := ih (k + 1) f (by omega) (by omega)
   refine ⟨y, ?_, ?_⟩
   ·show (Z4 600).b _ _ ((Z4 600).L f) some = _
    generalize (Z4 600).L f = Lf at r1 |-
    simp only [Z4]
    simp only [e2, e3, if_true, Int.toNat_natCast, zd3 P k hkl, ZW, hs, zp (show k < 1000000 by omega)]
    exact r1
   ·rcases r2 with ⟨⟨p, q1, q2⟩, h2⟩ | ⟨h1, h2⟩
    ·exact .inl ⟨⟨p, (zt hkl p).2 (.inr q1), q2⟩, h2⟩
    ·refine .inr ⟨fun ⟨p, q1, q2⟩ => ?_, h2⟩
     rcases (zt hkl p).1 q1 with e | e
     ·subst e; exact absurd (hb2.2 q2) (by simp)
     ·exact h1 ⟨p, e, q2⟩
theorem zm3 (P Q : List RT1) (a e : RT0) (ha : pkE a = P.map zw) (he : pkE e = Q.map zw) (hP : P.length <= 500) (hQ : Q.length <= 500) : ∃ b, zmk 600 (a, e) = some b /\ (b = true ↔ Com P Q) := by
 obtain ⟨y, h1, h2⟩ := zhY P Q e he hP hQ P.length 0 600 (by omega) (by omega)
 replace h1 : (Z4 600).L 600 (P.map zw, (P.length : Int), 0, e) = some y := h1
 rw [List.drop_zero] at h2
 have ha' : a.2.2.2.2.2.2.2.2.2.1 = P.map zw := ha
 simp only [zmk, FSpec.d, zk8, zAs, zkM, zz0, zj2, zvV, ha', List.length_map, h1]
 rcases h2 with ⟨h2, j, rfl⟩ | ⟨h2, rfl⟩
 ·exact ⟨_, rfl, by simp [h2]⟩
 ·exact ⟨_, rfl, by simp [h2]⟩
end Go.Proofs.YthdgnfcbehcplaaDoor
end
section
namespace Go.Proofs.YthdgnfcbehcplaaDoor
theorem nm0 (e : RT0) : Jt ((zB e).drop 0) = some (nmE e) := rfl
theorem zpg (n f c : Nat) (hn : n < 5) (h1 : f < c) (h2 : c <= 4) (h3 : f <= 1) : zAX 600 ((pks n f c).map zw) = some true := by
 rcases (show n = 0 \/ n = 1 \/ n = 2 \/ n = 3 \/ n = 4 by omega) with rfl | rfl | rfl | rfl | rfl <;> rcases (show (f = 0 /\ c = 1) \/ (f = 0 /\ c = 2) \/ (f = 0 /\ c = 3) \/ (f = 0 /\ c = 4) \/ (f = 1 /\ c = 2) \/ (f = 1 /\ c = 3) \/ (f = 1 /\ c = 4) by omega) with ⟨rfl, rfl⟩ | ⟨rfl, rfl⟩ | ⟨rfl, rfl⟩ | ⟨rfl, rfl⟩ | ⟨rfl, rfl⟩ | ⟨rfl, rfl⟩ | ⟨rfl, rfl⟩ <;> kernel_rfl
theorem zwT (n f c : Nat) (hn : n < 5) (h1 : f < c) (h2 : c <= 4) (h3 : f <= 1) : zzE 600 ((pks n f c).map zw) = some (pick n f) := by
 rcases (show n = 0 \/ n = 1 \/ n = 2 \/ n = 3 \/ n = 4 by omega) with rfl | rfl | rfl | rfl | rfl <;> rcases (show (f = 0 /\ c = 1) \/ (f = 0 /\ c = 2) \/ (f = 0 /\ c = 3) \/ (f = 0 /\ c = 4) \/ (f = 1 /\ c = 2) \/ (f = 1 /\ c = 3) \/ (f = 1 /\ c = 4) by omega) with ⟨rfl, rfl⟩ | ⟨rfl, rfl⟩ | ⟨rfl, rfl⟩ | ⟨rfl, rfl⟩ | ⟨rfl, rfl⟩ | ⟨rfl, rfl⟩ | ⟨rfl, rfl⟩ <;> kernel_rfl
theorem zug (n f c : Nat) (hn : n < 5) (h1 : f < c) (h2 : c <= 4) (h3 : f <= 1) : zzW 600 ((pks n f c).map zw) = some (pick n f) := by
 rcases (show n = 0 \/ n = 1 \/ n = 2 \/ n = 3 \/ n = 4 by omega) with rfl | rfl | rfl | rfl | rfl <;> rcases (show (f = 0 /\ c = 1) \/ (f = 0 /\ c = 2) \/ (f = 0 /\ c = 3) \/ (f = 0 /\ c = 4) \/ (f = 1 /\ c = 2) \/ (f = 1 /\ c = 3) \/ (f = 1 /\ c = 4) by omega) with ⟨rfl, rfl⟩ | ⟨rfl, rfl⟩ | ⟨rfl, rfl⟩ | ⟨rfl, rfl⟩ | ⟨rfl, rfl⟩ | ⟨rfl, rfl⟩ | ⟨rfl, rfl⟩ <;> kernel_rfl
theorem zqc (n f c : Nat) (hn : n < 5) (h1 : f < c) (h2 : c <= 4) (h3 : f <= 1) : zBE 600 ((pks n f c).map zw) = some ((pks n f c).map zw) := by
 rcases (show n = 0 \/ n = 1 \/ n = 2 \/ n = 3 \/ n = 4 by omega) with rfl | rfl | rfl | rfl | rfl <;> rcases (show (f = 0 /\ c = 1) \/ (f = 0 /\ c = 2) \/ (f = 0 /\ c = 3) \/ (f = 0 /\ c = 4) \/ (f = 1 /\ c = 2) \/ (f = 1 /\ c = 3) \/ (f = 1 /\ c = 4) by omega) with ⟨rfl, rfl⟩ | ⟨rfl, rfl⟩ | ⟨rfl, rfl⟩ | ⟨rfl, rfl⟩ | ⟨rfl, rfl⟩ | ⟨rfl, rfl⟩ | ⟨rfl, rfl⟩ <;> kernel_rfl
theorem zq9 (n f c : Nat) (hn : n < 5) (h1 : f < c) (h2 : c <= 4) (h3 : f <= 1) : zid 600 ((pks n f c).map zw, (pks n f c).map zw) = some true := by
 rcases (show n = 0 \/ n = 1 \/ n = 2 \/ n = 3 \/ n = 4 by omega) with rfl | rfl | rfl | rfl | rfl <;> rcases (show (f = 0 /\ c = 1) \/ (f = 0 /\ c = 2) \/ (f = 0 /\ c = 3) \/ (f = 0 /\ c = 4) \/ (f = 1 /\ c = 2) \/ (f = 1 /\ c = 3) \/ (f = 1 /\ c = 4) by omega) with ⟨rfl, rfl⟩ | ⟨rfl, rfl⟩ | ⟨rfl, rfl⟩ | ⟨rfl, rfl⟩ | ⟨rfl, rfl⟩ | ⟨rfl, rfl⟩ | ⟨rfl, rfl⟩ <;> kernel_rfl
theorem zps (n m f g : Nat) (hn : n < m) (hm : m < 5) (hf : f <= 1) (hg : g <= 1) : zx6 600 (pick n f, pick m g) = some (-1) /\ zyI 600 (pick n f, pick m g) = some (-1) := by
 rcases (show (n = 0 /\ m = 1) \/ (n = 0 /\ m = 2) \/ (n = 0 /\ m = 3) \/ (n = 0 /\ m = 4) \/ (n = 1 /\ m = 2) \/ (n = 1 /\ m = 3) \/ (n = 1 /\ m = 4) \/ (n = 2 /\ m = 3) \/ (n = 2 /\ m = 4) \/ (n = 3 /\ m = 4) by omega) with ⟨rfl, rfl⟩ | ⟨rfl, rfl⟩ | ⟨rfl, rfl⟩ | ⟨rfl, rfl⟩ | ⟨rfl, rfl⟩ | ⟨rfl, rfl⟩ | ⟨rfl, rfl⟩ | ⟨rfl, rfl⟩ | ⟨rfl, rfl⟩ | ⟨rfl, rfl⟩ <;> rcases (show f = 0 \/ f = 1 by omega) with rfl | rfl <;> rcases (show g = 0 \/ g = 1 by omega) with rfl | rfl <;> exact ⟨by kernel_rfl, by kernel_rfl⟩
@[reducible] def tmP (p : RT1) : Int := p.2.2.2.2.1
theorem ziE {n f c : Nat} (hc : c <= 4) : ∀ p ∈ pks n f c, 1000 + 400 * (n : Int) <= tmP p /\ tmP p < 1000 + 400 * (n + 1 : Nat) := fun p hp => by
 obtain ⟨i, hi, rfl⟩ := List.mem_map.1 hp
 rw [List.mem_range'] at hi
 obtain ⟨j, hj, rfl⟩ := hi
 simp only [tmP, pick]
 omega
theorem zjd {n i m j : Nat} (hi : i < 4) (hj : j < 4) (h : pick n i = pick m j) : n = m /\ i = j := by
 have := congrArg tmP h
 simp only [tmP, pick] at this
 omega
theorem zpU (n f c : Nat) (hc : c <= 4) : (pks n f c).Pairwise fun a b => a ≠ b := by
 unfold pks
 rw [List.pairwise_map]
 refine (List.pairwise_lt_range' (s := f) (n := c - f)).imp_of_mem fun {a b} ha hb hab h => ?_
 rw [List.mem_range'] at ha hb
 obtain ⟨i, hi, rfl⟩ := ha
 obtain ⟨j, hj, rfl⟩ := hb
 have := zjd (by omega) (by omega) h
 omega
theorem zCh (a b : RT1) : zad (zw a) (zw b) = eqP a b := by
 show (a.1 == b.1 && (a.2.1 == b.2.1 && (a.2.2.1 == b.2.2.1 && (a.2.2.2.1 == b.2.2.2.1 && (a.2.2.2.2.1 == b.2.2.2.2.1 && (a.2.2.2.2.2.1 == b.2.2.2.2.2.1 && (a.2.2.2.2.2.2.1 == b.2.2.2.2.2.2.1 && (a.2.2.2.2.2.2.2.1 == b.2.2.2.2.2.2.2.1 && (a.2.2.2.2.2.2.2.2.1 == b.2.2.2.2.2.2.2.2.1 && true))))))))) = _
 simp only [eqP, Bool.and_true, Bool.and_assoc]
theorem zwD : ∀ (M : List RT1) (p : RT1), p ∉ M -> zhA (zw p) (M.map zw) = false /\ zcj (zw p) (zw p) (M.map zw) = (M ++ [p]).map zw
 | [], p, h => ⟨rfl, rfl⟩
 | q :: M, p, h => by
  have h1 : p ≠ q := fun e => h (by rw [e]; exact List.mem_cons_self)
  obtain ⟨i1, i2⟩ := zwD M p (fun e => h (List.mem_cons_of_mem _ e))
  have e : zad (zw p) (zw q) = false := by rw [zCh]; exact zaT h1
  refine ⟨?_, ?_⟩
  ·unfold zhA at i1 |-
   simp only [List.map_cons, za6, e]
   exact i1
  ·simp only [List.map_cons, zcj, e, i2, List.cons_append]
theorem zmy (A B : List (List AV)) (la i : Int) (P : List RT1) (hP : P.length <= 500) (hd : P.Pairwise fun a b => a ≠ b) : ∀ (d k f : Nat) (M : List RT1), k + d = P.length -> d < f -> (∀ p ∈ P.drop k, p ∉ M) -> (ZP 600).L f (A, B, P.map zw, la, i, (P.length : Int), (k : Int), M.map zw) = some (.inr (A, B, la, i, (M ++ P.drop k).map zw)) := by
 intro d
 induction d with
 | zero =>
  intro k f M hk hf hM
  obtain ⟨f, rfl⟩ := pS hf
  show (ZP 600).b _ _ ((ZP 600).L f) some = _
  simp only [ZP]
  have e2 : decide ((k : Int) < (P.length : Int)) = false := dF (by omega)
  simp only [e2]
  rw [List.drop_eq_nil_of_le (by omega), List.append_nil]
 | succ d ih =>
  intro k f M hk hf hM
  obtain ⟨f, rfl⟩ := pS hf
  have hkl : k < P.length := by omega
  have e2 : decide ((k : Int) < (P.length : Int)) = true := dT (by omega)
  have e3 : (0 : Int) <= (k : Int) := by omega
  obtain ⟨m1, m2⟩ := zwD M P[k] (hM _ ((zt hkl _).2 (.inl rfl)))
  have r1 := ih (k + 1) f (M ++ [P[k]]) (by omega) (by omega) (fun p hp hm => by
   rcases List.mem_append.1 hm with h | h
   ·exact hM p ((zt hkl p).2 (.inr hp)) h
   ·have h := List.mem_singleton.1 h
    obtain ⟨j, hj, e⟩ := List.getElem_of_mem hp
    rw [List.getElem_drop] at e
    rw [List.length_drop] at hj
    exact List.pairwise_iff_getElem.1 hd k (k + 1 + j) hkl (by omega) (by omega) (by rw [e, h]))
  show (ZP 600).b _ _ ((ZP 600).L f) some = _
  generalize (ZP 600).L f = Lf at r1 |-
  simp only [ZP]
  simp only [e2, e3, if_true, Int.toNat_natCast, zd3 P k hkl, ZW, m1, m2, zp (show k < 1000000 by omega)]
  rw [r1, List.append_assoc]
  congr 4
  rw [List.drop_eq_getElem_cons hkl]
  rfl
theorem zeh (A : List RT0) (hA : A.length <= 5) : ∀ (R : List RT0) (k lo f : Nat) (M : List RT1), A.drop k = R -> R.length < f -> k + R.length = A.length -> Evs lo 5 R -> (∀ q ∈ M, tmP q < 1000 + 400 * (lo : Int)) -> (∀ (h : 0 < k) (h' : k - 1 < A.length), ∃ n g, n < lo /\ g <= 1 /\ nmE A[k - 1] = pick n g) ->
  (jD 600).L f (A.map zB, A.map zB, (A.length : Int), (k : Int), M.map zw) = some (.inr ())
 | [], k, lo, f, M, hR, hf, hk, hE, hM, hN => by
  obtain ⟨f, rfl⟩ := pS hf
  show (jD 600).b _ _ ((jD 600).L f) some = _
  simp only [jD]
  have e2 : decide ((k : Int) < (A.length : Int)) = false := by rw [decide_eq_false_iff_not]; simp at hk; omega
  simp only [e2]
 | e :: R, k, lo, f, M, hR, hf, hk, hE, hM, hN => by
  obtain ⟨f, rfl⟩ := pS hf
  rw [List.length_cons] at hf hk
  have hkl : k < A.length := by omega
  have hek : A[k] = e := by
   have := List.drop_eq_getElem_cons hkl
   rw [hR] at this
   exact (List.cons.inj this).1.symm
  obtain ⟨n, hn, ⟨g, c, c1, c2, c3, c4, c5, c6⟩, hE'⟩ := hE
  have hn5 : n + 1 <= 5 := by
   have : ∀ (L : List RT0) (lo hi : Nat), Evs lo hi L -> lo <= hi := fun L => by
    induction L with
    | nil => exact fun lo hi h => h
    | cons a L ih => exact fun lo hi ⟨n, h1, _, h3⟩ => by have := ih _ _ h3; omega
   exact this _ _ _ hE'
  have e2 : decide ((k : Int) < (A.length : Int)) = true := dT (by omega)
  have e3 : (0 : Int) <= (k : Int) := by omega
  have r1 := zeh A hA R (k + 1) (n + 1) f (M ++ pks n g c) (by rw [<- List.tail_drop, hR]; rfl) (by omega) (by omega) hE' (fun q hq => by
   rcases List.mem_append.1 hq with h | h
   ·have := hM q h; omega
   ·exact (ziE c2 q h).2) (fun _ h' => ⟨n, g, by omega, c3, by simp only [Nat.add_sub_cancel]; rw [hek]; exact c4⟩)
  have s1 := zpg n g c (by omega) c1 c2 c3
  have s2 := zwT n g c (by omega) c1 c2 c3
  have sl := zmy (A.map zB) (A.map zB) (A.length : Int) (k : Int) (pks n g c) (by rw [Jg]; omega) (zpU n g c c2) (pks n g c).length 0 600 M (by omega) (by rw [Jg]; omega) (fun p hp hm => by
   have h1 := (ziE c2 p hp).1
   have h2 := hM p hm
   omega)
  rw [List.drop_zero] at sl
  replace sl : (ZP 600).L 600 (A.map zB, A.map zB, (pks n g c).map zw, (A.length : Int), (k : Int), ((pks n g c).length : Int), 0, M.map zw) = some (.inr (A.map zB, A.map zB, (A.length : Int), (k : Int), (M ++ pks n g c).map zw)) := sl
  have c5' : e.2.2.2.2.2.2.2.2.2.1 = (pks n g c).map zw := c5
  have e4 : (((pks n g c).length : Int) == 0) = false := by rw [Jg]; simp; omega
  have e5 : eqP (nmE e) (pick n g) = true := by rw [c4]; exact JW _
  show (jD 600).b _ _ ((jD 600).L f) some = _
  generalize (jD 600).L f = Lf at r1 |-
  simp only [jD]
  simp only [e2, e3, if_true, Int.toNat_natCast, zcx A k hkl, hek, ZF, c5', List.length_map, e4, s1, s2, e5, Bool.not_true]
  by_cases hk0 : (k : Int) > 0
  ·have hk1 : i64 ((k : Int) - 1) = ((k - 1 : Nat) : Int) := by rw [Zz (by omega)]; omega
   obtain ⟨n', g', z1, z2, z3⟩ := hN (by omega) (by omega)
   have hl := (zps n' n g' g (by omega) (by omega) z2 c3).1
   rw [<- c4] at hl
   rw [<- z3] at hl
   have e6 : decide ((-1 : Int) >= 0) = false := by decide
   have e7 : (0 : Int) <= ((k - 1 : Nat) : Int) := by omega
   simp only [hk0, decide_true, hk1, e7, if_true, Int.toNat_natCast, zcx A (k - 1) (by omega), nm0, hl, e6, sl, zp (show k < 1000000 by omega)]
   exact r1
  ·simp only [hk0, decide_false, sl, zp (show k < 1000000 by omega)]
   exact r1
theorem zcT {L : List RT0} {lo hi : Nat} : Evs lo hi L -> L.length + lo <= hi := by
 induction L generalizing lo with
 | nil => intro h; have h' : lo <= hi := h; rw [List.length_nil]; omega
 | cons a L ih => exact fun ⟨n, h1, _, h3⟩ => by have := ih h3; rw [List.length_cons]; omega
theorem zaw {A : List RT0} {m : Nat} (hm : m <= 5) (h : Evs 0 m A) : zib 600 (A.map zB) = some true := by
 have hl := zcT h
 have := zeh A (by omega) A 0 0 600 [] rfl (by omega) (by omega) (h.mono hm) (fun q hq => by cases hq) (fun h => by omega)
 replace this : (jD 600).L 600 (A.map zB, A.map zB, (A.length : Int), 0, []) = some (.inr ()) := this
 simp only [zib, FSpec.d, zkv, zwz, List.length_map, this]
def za7 (e : RT0) : Prop := ∃ P : List RT1, P.length <= 4 /\ pkE e = P.map zw
theorem EvAt.pk {n : Nat} {e : RT0} (h : EvAt n e) : za7 e := by
 obtain ⟨f, c, h1, h2, h3, h4, h5, h6⟩ := h
 exact ⟨pks n f c, by rw [Jg]; omega, h5⟩
theorem Evs.all : ∀ {E : List RT0} {lo hi : Nat}, Evs lo hi E -> ∀ e ∈ E, ∃ n, lo <= n /\ n < hi /\ EvAt n e
 | [], lo, hi, h, e, he => by cases he
 | a :: E, lo, hi, h, e, he => by
  obtain ⟨n, h1, h2, h3⟩ := h
  have := zcT h3
  rcases List.mem_cons.1 he with h | h
  ·subst h; exact ⟨n, h1, by omega, h2⟩
  ·obtain ⟨m, q1, q2, q3⟩ := h3.all e h
   exact ⟨m, by omega, q2, q3⟩
theorem Evs.names : ∀ {E : List RT0} {lo hi : Nat}, Evs lo hi E -> E.Pairwise fun a b => nmE a ≠ nmE b
 | [], lo, hi, h => .nil
 | a :: E, lo, hi, h => by
  obtain ⟨n, h1, ⟨f, c, c1, c2, c3, c4, c5, c6⟩, h3⟩ := h
  refine .cons (fun b hb e => ?_) h3.names
  obtain ⟨m, q1, q2, f', c', z1, z2, z3, z4, z5, z6⟩ := h3.all b hb
  rw [c4, z4] at e
  have := zjd (by omega) (by omega) e
  omega
theorem Evs.pk {E : List RT0} {lo hi : Nat} (h : Evs lo hi E) : ∀ e ∈ E, za7 e := fun e he => by
 obtain ⟨n, _, _, q⟩ := h.all e he
 exact q.pk
structure EvOk (E : List RT0) : Prop where
 v : zib 600 (E.map zB) = some true
 l : E.length <= 5
 names : E.Pairwise fun a b => nmE a ≠ nmE b
 pk : ∀ e ∈ E, za7 e
theorem Evs.ok {E : List RT0} {m : Nat} (hm : m <= 5) (h : Evs 0 m E) : EvOk E := ⟨zaw hm h, by have := zcT h; omega, h.names, h.pk⟩
end Go.Proofs.YthdgnfcbehcplaaDoor
end
section
namespace Go.Proofs.YthdgnfcbehcplaaDoor
theorem zAx (A B : List (List AV)) (P Q : List RT1) (i : Nat) (hi : i < P.length) (hA : A = P.map zw) (hB : B = Q.map zw) (hQ : Q.length <= 500) : ∀ (d k f : Nat), k + d = Q.length -> d < f -> ∃ y, (Zv 600).L f (A, B, (i : Int), (k : Int)) = some y /\ ((P[i] ∈ Q.drop k /\ y = .inl (A, B, true, (i : Int))) \/ (P[i] ∉ Q.drop k /\ y = .inr (A, B, (i : Int)))) := by
 subst hA hB
 intro d
 induction d with
 | zero =>
  intro k f hk hf
  obtain ⟨f, rfl⟩ := pS hf
  refine ⟨_, ?_, .inr ⟨by rw [List.drop_eq_nil_of_le (by omega)]; simp, rfl⟩⟩
  show (Zv 600).b _ _ ((Zv 600).L f) some = _
  simp only [Zv]
  have e2 : decide ((k : Int) < (Q.length : Int)) = false := dF (by omega)
  simp only [List.length_map, e2]
 | succ d ih =>
  intro k f hk hf
  obtain ⟨f, rfl⟩ := pS hf
  have hkl : k < Q.length := by omega
  have e2 : decide ((k : Int) < (Q.length : Int)) = true := dT (by omega)
  have e3 : (0 : Int) <= (k : Int) := by omega
  have e4 : (0 : Int) <= (i : Int) := by omega
  by_cases hc : P[i] = Q[k]
  ·refine ⟨_, ?_, .inl ⟨(zt hkl _).2 (.inl hc), rfl⟩⟩
   show (Zv 600).b _ _ ((Zv 600).L f) some = _
   simp only [Zv]
   have e5 : eqP P[i] Q[k] = true := by rw [hc]; exact JW _
   simp only [List.length_map, e2, e3, e4, if_true, Int.toNat_natCast, zd3 Q k hkl, zd3 P i hi, ZW, e5]
  ·obtain ⟨y, r1, r2⟩ := ih (k + 1) f (by omega) (by omega)
   refine ⟨y, ?_, ?_⟩
   ·show (Zv 600).b _ _ ((Zv 600).L f) some = _
    generalize (Zv 600).L f = Lf at r1 |-
    simp only [Zv]
    have e5 : eqP P[i] Q[k] = false := zaT hc
    simp only [List.length_map, e2, e3, e4, if_true, Int.toNat_natCast, zd3 Q k hkl, zd3 P i hi, ZW, e5, zp (show k < 1000000 by omega)]
    exact r1
   ·rcases r2 with ⟨h1, h2⟩ | ⟨h1, h2⟩
    ·exact .inl ⟨(zt hkl _).2 (.inr h1), h2⟩
    ·exact .inr ⟨fun h => ((zt hkl _).1 h).elim hc h1, h2⟩
theorem zwU (P Q : List RT1) (hP : P.length <= 500) (hQ : Q.length <= 500) : ∀ (d k f : Nat), k + d = P.length -> d < f -> ∃ y, (ZZ 600).L f (P.map zw, Q.map zw, (k : Int)) = some y /\ ((Com (P.drop k) Q /\ y = .inl true) \/ (¬ Com (P.drop k) Q /\ y = .inr ())) := by
 intro d
 induction d with
 | zero =>
  intro k f hk hf
  obtain ⟨f, rfl⟩ := pS hf
  refine ⟨_, ?_, .inr ⟨by (rw [List.drop_eq_nil_of_le (by omega)]; rintro ⟨p, h, -⟩; cases h), rfl⟩⟩
  show (ZZ 600).b _ _ ((ZZ 600).L f) some = _
  simp only [ZZ]
  have e2 : decide ((k : Int) < (P.length : Int)) = false := dF (by omega)
  simp only [List.length_map, e2]
 | succ d ih =>
  intro k f hk hf
  obtain ⟨f, rfl⟩ := pS hf
  have hkl : k < P.length := by omega
  have e2 : decide ((k : Int) < (P.length : Int)) = true := dT (by omega)
  obtain ⟨z, q1, q2⟩ := zAx _ _ P Q k hkl rfl rfl hQ Q.length 0 600 (by omega) (by omega)
  replace q1 : (Zv 600).L 600 (P.map zw, Q.map zw, (k : Int), 0) = some z := q1
  rw [List.drop_zero] at q2
  rcases q2 with ⟨g1, rfl⟩ | ⟨g1, rfl⟩
  ·refine ⟨_, ?_, .inl ⟨⟨P[k], (zt hkl _).2 (.inl rfl), g1⟩, rfl⟩⟩
   show (ZZ 600).b _ _ ((ZZ 600).L f) some = _
   simp only [ZZ]
   simp only [List.length_map, e2, zin, q1]
  ·obtain ⟨y, r1, r2⟩ := ih (k + 1) f (by omega) (by omega)
   refine ⟨y, ?_, ?_⟩
   ·show (ZZ 600).b _ _ ((ZZ 600).L f) some = _
    generalize (ZZ 600).L f = Lf at r1 |-
    simp only [ZZ]
    simp only [List.length_map, e2, zin, q1, zp (show k < 1000000 by omega)]
    exact r1
   ·rcases r2 with ⟨⟨p, h1, h2⟩, h3⟩ | ⟨h1, h2⟩
    ·exact .inl ⟨⟨p, (zt hkl _).2 (.inr h1), h2⟩, h3⟩
    ·refine .inr ⟨fun ⟨p, h, h'⟩ => ?_, h2⟩
     rcases (zt hkl _).1 h with e | e
     ·subst e; exact g1 h'
     ·exact h1 ⟨p, e, h'⟩
theorem zB8 (P Q : List RT1) (hP : P.length <= 500) (hQ : Q.length <= 500) : ∃ b, zxR 600 (P.map zw, Q.map zw) = some b /\ (b = true ↔ Com P Q) := by
 obtain ⟨y, h1, h2⟩ := zwU P Q hP hQ P.length 0 600 (by omega) (by omega)
 replace h1 : (ZZ 600).L 600 (P.map zw, Q.map zw, 0) = some y := h1
 rw [List.drop_zero] at h2
 simp only [zxR, FSpec.d, zkE, zvW, h1]
 rcases h2 with ⟨h2, rfl⟩ | ⟨h2, rfl⟩
 ·exact ⟨_, rfl, by simp [h2]⟩
 ·exact ⟨_, rfl, by simp [h2]⟩
theorem zz6 (A B : List (List AV)) (P Q : List RT1) (i : Nat) (hi : i < P.length) (hA : A = P.map zw) (hB : B = Q.map zw) (hQ : Q.length <= 500) : ∀ (d k f : Nat), k + d = Q.length -> d < f -> ∃ y, (Zx 600).L f (A, B, (i : Int), (k : Int)) = some y /\ ((P[i] ∈ Q.drop k /\ y = .inl (A, B, true, (i : Int))) \/ (P[i] ∉ Q.drop k /\ y = .inr (A, B, (i : Int)))) := by
 subst hA hB
 intro d
 induction d with
 | zero =>
  intro k f hk hf
  obtain ⟨f, rfl⟩ := pS hf
  refine ⟨_, ?_, .inr ⟨by rw [List.drop_eq_nil_of_le (by omega)]; simp, rfl⟩⟩
  show (Zx 600).b _ _ ((Zx 600).L f) some = _
  simp only [Zx]
  have e2 : decide ((k : Int) < (Q.length : Int)) = false := dF (by omega)
  simp only [List.length_map, e2]
 | succ d ih =>
  intro k f hk hf
  obtain ⟨f, rfl⟩ := pS hf
  have hkl : k < Q.length := by omega
  have e2 : decide ((k : Int) < (Q.length : Int)) = true := dT (by omega)
  have e3 : (0 : Int) <= (k : Int) := by omega
  have e4 : (0 : Int) <= (i : Int) := by omega
  by_cases hc : P[i] = Q[k]
  ·refine ⟨_, ?_, .inl ⟨(zt hkl _).2 (.inl hc), rfl⟩⟩
   show (Zx 600).b _ _ ((Zx 600).L f) some = _
   simp only [Zx]
   have e5 : eqP P[i] Q[k] = true := by rw [hc]; exact JW _
   simp only [List.length_map, e2, e3, e4, if_true, Int.toNat_natCast, zd3 Q k hkl, zd3 P i hi, ZW, e5]
  ·obtain ⟨y, r1, r2⟩ := ih (k + 1) f (by omega) (by omega)
   refine ⟨y, ?_, ?_⟩
   ·show (Zx 600).b _ _ ((Zx 600).L f) some = _
    generalize (Zx 600).L f = Lf at r1 |-
    simp only [Zx]
    have e5 : eqP P[i] Q[k] = false := zaT hc
    simp only [List.length_map, e2, e3, e4, if_true, Int.toNat_natCast, zd3 Q k hkl, zd3 P i hi, ZW, e5, zp (show k < 1000000 by omega)]
    exact r1
   ·rcases r2 with ⟨h1, h2⟩ | ⟨h1, h2⟩
    ·exact .inl ⟨(zt hkl _).2 (.inr h1), h2⟩
    ·exact .inr ⟨fun h => ((zt hkl _).1 h).elim hc h1, h2⟩
theorem zxb (P Q : List RT1) (hP : P.length <= 500) (hQ : Q.length <= 500) : ∀ (d k f : Nat), k + d = P.length -> d < f -> ∃ y, (Z6 600).L f (P.map zw, Q.map zw, (k : Int)) = some y /\ ((Com (P.drop k) Q /\ y = .inl true) \/ (¬ Com (P.drop k) Q /\ y = .inr ())) := by
 intro d
 induction d with
 | zero =>
  intro k f hk hf
  obtain ⟨f, rfl⟩ := pS hf
  refine ⟨_, ?_, .inr ⟨by (rw [List.drop_eq_nil_of_le (by omega)]; rintro ⟨p, h, -⟩; cases h), rfl⟩⟩
  show (Z6 600).b _ _ ((Z6 600).L f) some = _
  simp only [Z6]
  have e2 : decide ((k : Int) < (P.length : Int)) = false := dF (by omega)
  simp only [List.length_map, e2]
 | succ d ih =>
  intro k f hk hf
  obtain ⟨f, rfl⟩ := pS hf
  have hkl : k < P.length := by omega
  have e2 : decide ((k : Int) < (P.length : Int)) = true := dT (by omega)
  obtain ⟨z, q1, q2⟩ := zz6 _ _ P Q k hkl rfl rfl hQ Q.length 0 600 (by omega) (by omega)
  replace q1 : (Zx 600).L 600 (P.map zw, Q.map zw, (k : Int), 0) = some z := q1
  rw [List.drop_zero] at q2
  rcases q2 with ⟨g1, rfl⟩ | ⟨g1, rfl⟩
  ·refine ⟨_, ?_, .inl ⟨⟨P[k], (zt hkl _).2 (.inl rfl), g1⟩, rfl⟩⟩
   show (Z6 600).b _ _ ((Z6 600).L f) some = _
   simp only [Z6]
   simp only [List.length_map, e2, zhu, q1]
  ·obtain ⟨y, r1, r2⟩ := ih (k + 1) f (by omega) (by omega)
   refine ⟨y, ?_, ?_⟩
   ·show (Z6 600).b _ _ ((Z6 600).L f) some = _
    generalize (Z6 600).L f = Lf at r1 |-
    simp only [Z6]
    simp only [List.length_map, e2, zhu, q1, zp (show k < 1000000 by omega)]
    exact r1
   ·rcases r2 with ⟨⟨p, h1, h2⟩, h3⟩ | ⟨h1, h2⟩
    ·exact .inl ⟨⟨p, (zt hkl _).2 (.inr h1), h2⟩, h3⟩
    ·refine .inr ⟨fun ⟨p, h, h'⟩ => ?_, h2⟩
     rcases (zt hkl _).1 h with e | e
     ·subst e; exact g1 h'
     ·exact h1 ⟨p, e, h'⟩
theorem zCu (P Q : List RT1) (hP : P.length <= 500) (hQ : Q.length <= 500) : ∃ b, zqQ 600 (P.map zw, Q.map zw) = some b /\ (b = true ↔ Com P Q) := by
 obtain ⟨y, h1, h2⟩ := zxb P Q hP hQ P.length 0 600 (by omega) (by omega)
 replace h1 : (Z6 600).L 600 (P.map zw, Q.map zw, 0) = some y := h1
 rw [List.drop_zero] at h2
 simp only [zqQ, FSpec.d, zjD, zvY, h1]
 rcases h2 with ⟨h2, rfl⟩ | ⟨h2, rfl⟩
 ·exact ⟨_, rfl, by simp [h2]⟩
 ·exact ⟨_, rfl, by simp [h2]⟩
end Go.Proofs.YthdgnfcbehcplaaDoor
end
section
namespace Go.Proofs.YthdgnfcbehcplaaDoor
theorem pk0 (e : RT0) : (((zB e).drop 9).drop 0)[0]? = some (AV.list 9 (pkE e) none) := rfl
theorem zBU (xs : List (List AV)) : ju 9 (AV.list 9 xs none) = some xs := by simp [ju]
theorem zkn (A : List RT0) (P : List RT1) (i : Nat) (hi : i <= A.length) (hA : A.length <= 500) (hP : P.length <= 500) (h : ∀ k (h : k < A.length), k < i -> ∃ Q : List RT1, Q.length <= 500 /\ pkE A[k] = Q.map zw /\ ¬ Com P Q) : ∀ (d k f : Nat), k + d = i -> d < f -> (ZN 600).L f (A.map zB, P.map zw, (i : Int), (k : Int)) = some (.inr (A.map zB, (i : Int))) := by
 intro d
 induction d with
 | zero =>
  intro k f hk hf
  obtain ⟨f, rfl⟩ := pS hf
  show (ZN 600).b _ _ ((ZN 600).L f) some = _
  simp only [ZN]
  have e2 : decide ((k : Int) < (i : Int)) = false := dF (by omega)
  simp only [e2]
 | succ d ih =>
  intro k f hk hf
  obtain ⟨f, rfl⟩ := pS hf
  have hkl : k < A.length := by omega
  have e2 : decide ((k : Int) < (i : Int)) = true := dT (by omega)
  have e3 : (0 : Int) <= (k : Int) := by omega
  obtain ⟨Q, q1, q2, q3⟩ := h k hkl (by omega)
  obtain ⟨b, b1, b2⟩ := zB8 P Q hP q1
  obtain rfl : b = false := by cases b with | false => rfl | true => exact absurd (b2.1 rfl) q3
  have r1 := ih (k + 1) f (by omega) (by omega)
  show (ZN 600).b _ _ ((ZN 600).L f) some = _
  generalize (ZN 600).L f = Lf at r1 |-
  simp only [ZN]
  simp only [e2, e3, if_true, Int.toNat_natCast, zcx A k hkl, pk0, zBU, q2, b1, zp (show k < 1000000 by omega)]
  exact r1
theorem zdC (A : List RT0) (hA : A.length <= 5) : ∀ (R : List RT0) (k lo f : Nat), A.drop k = R -> R.length < f -> k + R.length = A.length -> Evs lo 5 R -> (∀ j (h : j < A.length), j < k -> ∃ n, n < lo /\ EvAt n A[j]) ->
  (jH 600).L f (A.map zB, (k : Int)) = some (.inr ())
 | [], k, lo, f, hR, hf, hk, hE, hN => by
  obtain ⟨f, rfl⟩ := pS hf
  show (jH 600).b _ _ ((jH 600).L f) some = _
  simp only [jH]
  have e2 : decide ((k : Int) < (A.length : Int)) = false := by rw [decide_eq_false_iff_not]; simp at hk; omega
  simp only [List.length_map, e2]
 | e :: R, k, lo, f, hR, hf, hk, hE, hN => by
  obtain ⟨f, rfl⟩ := pS hf
  rw [List.length_cons] at hf hk
  have hkl : k < A.length := by omega
  have hek : A[k] = e := by
   have := List.drop_eq_getElem_cons hkl
   rw [hR] at this
   exact (List.cons.inj this).1.symm
  obtain ⟨n, hn, hev, hE'⟩ := hE
  have hn5 := zcT hE'
  have r1 := zdC A hA R (k + 1) (n + 1) f (by rw [<- List.tail_drop, hR]; rfl) (by omega) (by omega) hE' (fun j h hj => by
   by_cases hc : j = k
   ·subst hc; exact ⟨n, by omega, by rw [hek]; exact hev⟩
   ·obtain ⟨m, h1, h2⟩ := hN j h (by omega); exact ⟨m, by omega, h2⟩)
  obtain ⟨g, c, c1, c2, c3, c4, c5, c6⟩ := hev
  have e2 : decide ((k : Int) < (A.length : Int)) = true := dT (by omega)
  have e3 : (0 : Int) <= (k : Int) := by omega
  have s1 := zug n g c (by omega) c1 c2 c3
  have s2 := zqc n g c (by omega) c1 c2 c3
  have s3 := zq9 n g c (by omega) c1 c2 c3
  have sl := zkn A (pks n g c) k (by omega) (by omega) (by rw [Jg]; omega) (fun j h hj => by
   obtain ⟨m, h1, g', c', z1, z2, z3, z4, z5, z6⟩ := hN j h hj
   refine ⟨pks m g' c', by rw [Jg]; omega, z5, fun ⟨p, q1, q2⟩ => ?_⟩
   have t1 := (ziE c2 p q1).1
   have t2 := (ziE z2 p q2).2
   omega) k 0 600 (by omega) (by omega)
  replace sl : (ZN 600).L 600 (A.map zB, (pks n g c).map zw, (k : Int), 0) = some (.inr (A.map zB, (k : Int))) := sl
  have e4 : (((pks n g c).length : Int) == 0) = false := by rw [Jg]; simp; omega
  have e5 : eqP (nmE e) (pick n g) = true := by rw [c4]; exact JW _
  show (jH 600).b _ _ ((jH 600).L f) some = _
  generalize (jH 600).L f = Lf at r1 |-
  simp only [jH]
  simp only [List.length_map, e2, e3, if_true, Int.toNat_natCast, zcx A k hkl, hek, pk0, zBU, c5, e4, nm0, s1, s2, s3, e5, Bool.not_true]
  by_cases hk0 : (k : Int) > 0
  ·have hk1 : i64 ((k : Int) - 1) = ((k - 1 : Nat) : Int) := by rw [Zz (by omega)]; omega
   obtain ⟨n', z0, g', c', z1, z2, z3, z4, z5, z6⟩ := hN (k - 1) (by omega) (by omega)
   have hl := (zps n' n g' g (by omega) (by omega) z3 c3).2
   rw [<- c4] at hl
   rw [<- z4] at hl
   have e6 : decide ((-1 : Int) >= 0) = false := by decide
   have e7 : (0 : Int) <= ((k - 1 : Nat) : Int) := by omega
   simp only [hk0, decide_true, hk1, e7, if_true, Int.toNat_natCast, zcx A (k - 1) (by omega), nm0, hl, e6, zfM, sl, zp (show k < 1000000 by omega)]
   exact r1
  ·simp only [hk0, decide_false, zfM, sl, zp (show k < 1000000 by omega)]
   exact r1
theorem zcf {A : List RT0} {m : Nat} (hm : m <= 5) (h : Evs 0 m A) : zfL 600 (A.map zB) = some true := by
 have hl := zcT h
 have := zdC A (by omega) A 0 0 600 rfl (by omega) (by omega) (h.mono hm) (fun j _ hj => by omega)
 replace this : (jH 600).L 600 (A.map zB, 0) = some (.inr ()) := this
 simp only [zfL, FSpec.d, zkg, zwB, this]
end Go.Proofs.YthdgnfcbehcplaaDoor
end
section
namespace Go.Proofs.YthdgnfcbehcplaaDoor
theorem zs9 : zBC 600 () = some true := by kernel_rfl
theorem f8a (N : Nat) (x) : Je N x = zcD N x := by kernel_rfl
theorem f7a (N : Nat) (x) : zzD N x = zDt N x := by kernel_rfl
theorem f9a (N : Nat) (x) : ztJ N x = zwF N x := by kernel_rfl
@[reducible] def kdV (v : RT7) : Int := v.1
@[reducible] def atV (v : RT7) : Int := v.2.1
@[reducible] def byV (v : RT7) : ByteArray := v.2.2.1
@[reducible] def inV (v : RT7) : Int := v.2.2.2.1
@[reducible] def evV (v : RT7) : RT0 := v.2.2.2.2
def zzd (x : List RT7) : List AV := [AV.list 29 (x.map zM) none]
def zP (C : List (List RT7)) : List (List AV) := C.map zzd
theorem zU (C : List (List RT7)) : (zP C).length = C.length := by simp [zP]
theorem Zc (C : List (List RT7)) (k : Nat) (h : k < C.length) : (zP C)[k]? = some (zzd C[k]) := by simp [zP, h]
theorem zw1 (x : List RT7) : zf1 (zzd x) = some (x.map zM, ()) := by
 show dec RK6 [AV.list 29 (x.map zM) none] = _
 simp only [dec, zma, ju, if_true]
theorem zm5 (x : List RT7) : ((zzd x).drop 0)[0]? = some (AV.list 29 (x.map zM) none) := rfl
theorem zye (xs : List (List AV)) : ju 29 (AV.list 29 xs none) = some xs := by simp [ju]
theorem zp5 (P : List RT7) (k : Nat) (h : k < P.length) : (P.map zM)[k]? = some (zM P[k]) := by simp [h]
theorem rd7 (v : RT7) : zk9 (zM v) = some v := zxY v
def ann : ByteArray := ⟨#[97, 110, 110]⟩
def bob : ByteArray := ⟨#[98, 111, 98]⟩
def nob : ByteArray := ⟨#[]⟩
def Per (b : ByteArray) : Prop := b = ann \/ b = bob
theorem zmY {b : ByteArray} (h : Per b) : ztS 600 b = some true /\ zuN 600 b = some true /\ (b.toList == nob.toList) = false := by
 rcases h with rfl | rfl
 ·exact ⟨by kernel_rfl, by kernel_rfl, by kernel_rfl⟩
 ·exact ⟨by kernel_rfl, by kernel_rfl, by kernel_rfl⟩
def Z7 (k : Int) : Bool := k == 1 || (k == 2 || k == 6)
def JZ (k : Int) : Bool := k == 1 || (k == 3 || k == 6)
def zBF (k u : Int) : Bool := if k = 1 then Z7 u else if k = 2 then (u == 1 || u == 6) else if k = 6 then !(Z7 u) else true
def zch (k : Int) : Bool := k != 1 && k != 3
theorem zmI (N : Nat) (v : RT7) : zh2 N v = some (Z7 (kdV v)) := by
 simp only [zh2, FSpec.d, zjC, Z7]
 cases v.1 == 1 <;> cases v.1 == 2 <;> cases v.1 == 6 <;> rfl
theorem zxC (N : Nat) (v : RT7) : zxk N v = some (JZ (kdV v)) := by
 simp only [zxk, FSpec.d, zla, JZ]
 cases v.1 == 1 <;> cases v.1 == 3 <;> cases v.1 == 6 <;> rfl
theorem zAr (N : Nat) (v u : RT7) : zlo N (v, u) = some (zBF (kdV v) (kdV u)) := by
 simp only [zlo, FSpec.d, zj5, zBF, zmI]
 by_cases h1 : v.1 = 1
 ·simp [h1]
 ·by_cases h2 : v.1 = 2
  ·simp [h2]
   cases u.1 == 1 <;> simp
  ·by_cases h6 : v.1 = 6
   ·simp [h6]
   ·have e1 : (v.1 == 1) = false := by simpa using h1
    have e2 : (v.1 == 2) = false := by simpa using h2
    have e6 : (v.1 == 6) = false := by simpa using h6
    simp only [e1, e2, e6, if_neg h1, if_neg h2, if_neg h6]
theorem zpH (N : Nat) (k : Int) : zii N k = some (zch k) := by
 simp only [zii, FSpec.d, zkh, zch]
 cases k != 1 <;> simp
def Kd6 (k : Int) : Prop := k = 1 \/ k = 2 \/ k = 3 \/ k = 4 \/ k = 5 \/ k = 6
theorem zAI {k : Int} (h : Kd6 k) : zqU 600 k = some (Z7 k) := by
 rcases h with rfl | rfl | rfl | rfl | rfl | rfl <;> kernel_rfl
theorem zsC {k : Int} (h : Kd6 k) : ((gtab3.map AV.v).drop (k.toNat * 1))[0]? = some (.v (.bool (k == 1 || k == 2))) := by
 rcases h with rfl | rfl | rfl | rfl | rfl | rfl <;> kernel_rfl
theorem zt0 {k : Int} (h : Kd6 k) : ((gtab2.map AV.v).drop (k.toNat * 1))[0]? = some (.v (.bool (zch k))) := by
 rcases h with rfl | rfl | rfl | rfl | rfl | rfl <;> kernel_rfl
theorem zuI {k : Int} (h : Kd6 k) : ((gtab0.map AV.v).drop (k.toNat * 1))[0]? = some (.v (.bool (JZ k))) := by
 rcases h with rfl | rfl | rfl | rfl | rfl | rfl <;> kernel_rfl
theorem zwR {k u : Int} (h : Kd6 k) (hu : Kd6 u) : (((gtab1.map AV.v).drop (k.toNat * 7)).drop (u.toNat * 1))[0]? = some (.v (.bool (zBF k u))) := by
 rcases h with rfl | rfl | rfl | rfl | rfl | rfl <;> rcases hu with rfl | rfl | rfl | rfl | rfl | rfl <;> kernel_rfl
theorem Kd6.lt {k : Int} (h : Kd6 k) : 0 <= k /\ k < 7 /\ 1 <= k /\ k <= 6 := by unfold Kd6 at h; omega
def EvN (e : RT0) : Prop := ∃ n, n < 5 /\ EvAt n e
theorem EvN.one {e : RT0} (h : EvN e) : Evs 0 5 [e] := by
 obtain ⟨n, h1, h2⟩ := h
 exact ⟨n, Nat.zero_le _, h2, by show n + 1 <= 5; omega⟩
theorem zyZ {e : RT0} (h : EvN e) : zfL 600 [zB e] = some true := zcf (A := [e]) (by omega) h.one
theorem zxW {e : RT0} (h : EvN e) : zib 600 [zB e] = some true := zaw (A := [e]) (by omega) h.one
theorem Evs.evn {E : List RT0} {m : Nat} (hm : m <= 5) (h : Evs 0 m E) : ∀ e ∈ E, EvN e := fun e he => by
 obtain ⟨n, _, h2, h3⟩ := h.all e he
 exact ⟨n, by omega, h3⟩
end Go.Proofs.YthdgnfcbehcplaaDoor
end
section
namespace Go.Proofs.YthdgnfcbehcplaaDoor
theorem zcn {P Q : List RT1} (h : P.map zw = Q.map zw) : P = Q := by
 have hi : ∀ a b : RT1, zw a = zw b -> a = b := fun a b h => by
  have := congrArg Jt h
  rw [ZW, ZW] at this
  exact Option.some.inj this
 induction P generalizing Q with
 | nil => cases Q with
  | nil => rfl
  | cons q Q => cases h
 | cons p P ih => cases Q with
  | nil => cases h
  | cons q Q =>
   simp only [List.map_cons, List.cons.injEq] at h
   rw [hi p q h.1, ih h.2]
theorem zwp {a e : RT0} (h1 : nmE a = nmE e) (h2 : zH a = zH e) : a = e := by
 have e1 : ∀ x : RT0, x = ((nmE x).1, (nmE x).2.1, (nmE x).2.2.1, (nmE x).2.2.2.1, (nmE x).2.2.2.2.1, (nmE x).2.2.2.2.2.1, (nmE x).2.2.2.2.2.2.1, (nmE x).2.2.2.2.2.2.2.1, (nmE x).2.2.2.2.2.2.2.2.1, zH x) := fun x => rfl
 rw [e1 a, e1 e, h1, h2]
theorem zxK (P Q : List RT1) (hl : P.length = Q.length) (hP : P.length <= 500) : ∀ (d k f : Nat), k + d = P.length -> d < f -> ∃ y, (Z1 600).L f (P.map zw, Q.map zw, (k : Int)) = some y /\ ((P.drop k = Q.drop k /\ y = .inr ()) \/ (P.drop k ≠ Q.drop k /\ y = .inl false)) := by
 intro d
 induction d with
 | zero =>
  intro k f hk hf
  obtain ⟨f, rfl⟩ := pS hf
  refine ⟨_, ?_, .inl ⟨by rw [List.drop_eq_nil_of_le (by omega), List.drop_eq_nil_of_le (by omega)], rfl⟩⟩
  show (Z1 600).b _ _ ((Z1 600).L f) some = _
  simp only [Z1]
  have e2 : decide ((k : Int) < (P.length : Int)) = false := dF (by omega)
  simp only [List.length_map, e2]
 | succ d ih =>
  intro k f hk hf
  obtain ⟨f, rfl⟩ := pS hf
  have hkl : k < P.length := by omega
  have hkq : k < Q.length := by omega
  have e2 : decide ((k : Int) < (P.length : Int)) = true := dT (by omega)
  have h0 : 0 <= (k : Int) := by omega
  have dP := List.drop_eq_getElem_cons hkl
  have dQ := List.drop_eq_getElem_cons hkq
  by_cases he : P[k] = Q[k]
  ·obtain ⟨y, r1, r2⟩ := ih (k + 1) f (by omega) (by omega)
   refine ⟨y, ?_, ?_⟩
   ·show (Z1 600).b _ _ ((Z1 600).L f) some = _
    generalize (Z1 600).L f = Lf at r1 |-
    simp only [Z1]
    have ee := JW P[k]
    simp only [eqP] at ee
    simp only [List.length_map, e2, h0, if_true, Int.toNat_natCast, zd3 P k hkl, zd3 Q k hkq, ZW, <- he, ee, Bool.not_true, zp (show k < 1000000 by omega)]
    exact r1
   ·rw [dP, dQ, he]
    rcases r2 with ⟨a, b⟩ | ⟨a, b⟩
    ·exact .inl ⟨by rw [a], b⟩
    ·exact .inr ⟨fun e => a (by injection e), b⟩
  ·refine ⟨_, ?_, .inr ⟨fun e => he (by rw [dP, dQ] at e; injection e), rfl⟩⟩
   show (Z1 600).b _ _ ((Z1 600).L f) some = _
   simp only [Z1]
   have ee := zaT he
   simp only [eqP] at ee
   simp only [List.length_map, e2, h0, if_true, Int.toNat_natCast, zd3 P k hkl, zd3 Q k hkq, ZW, ee, Bool.not_false]
theorem zDe (P Q : List RT1) (hP : P.length <= 500) (hQ : Q.length <= 500) : ∃ b, zid 600 (P.map zw, Q.map zw) = some b /\ (b = true ↔ P = Q) := by
 simp only [zid, FSpec.d, zll, List.length_map]
 by_cases hl : P.length = Q.length
 ·have e1 : ((P.length : Int) != (Q.length : Int)) = false := by simp [hl]
  obtain ⟨y, h1, h2⟩ := zxK P Q hl hP P.length 0 600 (by omega) (by omega)
  replace h1 : (Z1 600).L 600 (P.map zw, Q.map zw, 0) = some y := h1
  simp only [e1, zwH, h1]
  rw [List.drop_zero, List.drop_zero] at h2
  rcases h2 with ⟨a, rfl⟩ | ⟨a, rfl⟩
  ·exact ⟨_, rfl, by simp [a]⟩
  ·exact ⟨_, rfl, by simp [a]⟩
 ·have e1 : ((P.length : Int) != (Q.length : Int)) = true := by simp; omega
  have : P ≠ Q := fun e => hl (by rw [e])
  simp only [e1]
  exact ⟨_, rfl, by simp [this]⟩
theorem zxI (P Q : List RT1) (hl : P.length = Q.length) (hP : P.length <= 500) : ∀ (d k f : Nat), k + d = P.length -> d < f -> ∃ y, (Zy 600).L f (P.map zw, Q.map zw, (P.length : Int), (k : Int)) = some y /\ ((P.drop k = Q.drop k /\ y = .inr ()) \/ (P.drop k ≠ Q.drop k /\ y = .inl false)) := by
 intro d
 induction d with
 | zero =>
  intro k f hk hf
  obtain ⟨f, rfl⟩ := pS hf
  refine ⟨_, ?_, .inl ⟨by rw [List.drop_eq_nil_of_le (by omega), List.drop_eq_nil_of_le (by omega)], rfl⟩⟩
  show (Zy 600).b _ _ ((Zy 600).L f) some = _
  simp only [Zy]
  have e2 : decide ((k : Int) < (P.length : Int)) = false := dF (by omega)
  simp only [List.length_map, e2]
 | succ d ih =>
  intro k f hk hf
  obtain ⟨f, rfl⟩ := pS hf
  have hkl : k < P.length := by omega
  have hkq : k < Q.length := by omega
  have e2 : decide ((k : Int) < (P.length : Int)) = true := dT (by omega)
  have h0 : 0 <= (k : Int) := by omega
  have dP := List.drop_eq_getElem_cons hkl
  have dQ := List.drop_eq_getElem_cons hkq
  by_cases he : P[k] = Q[k]
  ·obtain ⟨y, r1, r2⟩ := ih (k + 1) f (by omega) (by omega)
   refine ⟨y, ?_, ?_⟩
   ·show (Zy 600).b _ _ ((Zy 600).L f) some = _
    generalize (Zy 600).L f = Lf at r1 |-
    simp only [Zy]
    have ee := JW P[k]
    simp only [eqP] at ee
    simp only [List.length_map, e2, h0, if_true, Int.toNat_natCast, zd3 P k hkl, zd3 Q k hkq, ZW, <- he, ee, Bool.not_true, zp (show k < 1000000 by omega)]
    exact r1
   ·rw [dP, dQ, he]
    rcases r2 with ⟨a, b⟩ | ⟨a, b⟩
    ·exact .inl ⟨by rw [a], b⟩
    ·exact .inr ⟨fun e => a (by injection e), b⟩
  ·refine ⟨_, ?_, .inr ⟨fun e => he (by rw [dP, dQ] at e; injection e), rfl⟩⟩
   show (Zy 600).b _ _ ((Zy 600).L f) some = _
   simp only [Zy]
   have ee := zaT he
   simp only [eqP] at ee
   simp only [List.length_map, e2, h0, if_true, Int.toNat_natCast, zd3 P k hkl, zd3 Q k hkq, ZW, ee, Bool.not_false]
theorem zDa (P Q : List RT1) (hP : P.length <= 500) (hQ : Q.length <= 500) : ∃ b, zgd 600 (P.map zw, Q.map zw) = some b /\ (b = true ↔ P = Q) := by
 simp only [zgd, FSpec.d, zev, List.length_map]
 by_cases hl : P.length = Q.length
 ·have e1 : ((P.length : Int) != (Q.length : Int)) = false := by simp [hl]
  obtain ⟨y, h1, h2⟩ := zxI P Q hl hP P.length 0 600 (by omega) (by omega)
  replace h1 : (Zy 600).L 600 (P.map zw, Q.map zw, (P.length : Int), 0) = some y := h1
  simp only [e1, zmT, h1]
  rw [List.drop_zero, List.drop_zero] at h2
  rcases h2 with ⟨a, rfl⟩ | ⟨a, rfl⟩
  ·exact ⟨_, rfl, by simp [a]⟩
  ·exact ⟨_, rfl, by simp [a]⟩
 ·have e1 : ((P.length : Int) != (Q.length : Int)) = true := by simp; omega
  have : P ≠ Q := fun e => hl (by rw [e])
  simp only [e1]
  exact ⟨_, rfl, by simp [this]⟩
theorem zsZ (a e : RT0) (ha : za7 a) (he : za7 e) : ∃ b, zxE 600 (zH a, zH e) = some b /\ (b = true ↔ (zH a) = (zH e)) := by
 obtain ⟨P, hP1, hP⟩ := ha
 obtain ⟨Q, hQ1, hQ⟩ := he
 obtain ⟨b, h1, h2⟩ := zDe P Q (by omega) (by omega)
 have h3 : zid 600 ((zH a).1, (zH e).1) = some b := by
  show zid 600 (pkE a, pkE e) = some b
  rw [hP, hQ]; exact h1
 have hpq : (zH a).1 = (zH e).1 ↔ P = Q := by
  show pkE a = pkE e ↔ P = Q
  rw [hP, hQ]
  exact ⟨fun h => zcn h, fun h => by rw [h]⟩
 generalize zH a = A at *
 generalize zH e = E at *
 simp only [zxE, FSpec.d, zjW, h3]
 cases b with
 | false => exact ⟨_, rfl, by
   constructor
   ·intro h; cases h
   ·intro h; exact absurd (h2.2 (hpq.1 (by rw [h]))) (by simp)⟩
 | true =>
  have hpe : A.1 = E.1 := hpq.2 (h2.1 rfl)
  simp only
  split
  ·rename_i c1
   split
   ·rename_i c2
    refine ⟨_, rfl, ⟨fun h => ?_, fun h => (by rw [h]; simp)⟩⟩
    simp only [Bool.and_eq_true, beq_iff_eq, and_true] at c1 c2 h
    simp [Prod.ext_iff, *]
   ·rename_i c2
    refine ⟨_, rfl, ⟨fun h => (by cases h), fun h => ?_⟩⟩
    rw [h] at c2; simp at c2
  ·rename_i c1
   refine ⟨_, rfl, ⟨fun h => (by cases h), fun h => ?_⟩⟩
   rw [h] at c1; simp at c1
theorem zfu (a e : RT0) (ha : za7 a) (he : za7 e) : ∃ b, zcM 600 (a, e) = some b /\ (b = true ↔ a = e) := by
 obtain ⟨b, h1, h2⟩ := zsZ a e ha he
 simp only [zcM, FSpec.d, zkr, h1]
 have hae : a = e ↔ nmE a = nmE e /\ zH a = zH e := ⟨fun h => by rw [h]; exact ⟨rfl, rfl⟩, fun ⟨x, y⟩ => zwp x y⟩
 by_cases hn : nmE a = nmE e
 ·have ee := (congrArg (eqP (nmE a)) hn).symm.trans (JW (nmE a))
  simp only [eqP] at ee
  simp only [ee]
  exact ⟨b, rfl, by rw [h2, hae]; exact ⟨fun h => ⟨hn, h⟩, fun h => h.2⟩⟩
 ·have ee := zaT hn
  simp only [eqP] at ee
  simp only [ee]
  exact ⟨_, rfl, by rw [hae]; simp [hn]⟩
theorem zrj (a e : RT0) (ha : za7 a) (he : za7 e) : ∃ b, zxx 600 (zH a, zH e) = some b /\ (b = true ↔ (zH a) = (zH e)) := by
 obtain ⟨P, hP1, hP⟩ := ha
 obtain ⟨Q, hQ1, hQ⟩ := he
 obtain ⟨b, h1, h2⟩ := zDa P Q (by omega) (by omega)
 have h3 : zgd 600 ((zH a).1, (zH e).1) = some b := by
  show zgd 600 (pkE a, pkE e) = some b
  rw [hP, hQ]; exact h1
 have hpq : (zH a).1 = (zH e).1 ↔ P = Q := by
  show pkE a = pkE e ↔ P = Q
  rw [hP, hQ]
  exact ⟨fun h => zcn h, fun h => by rw [h]⟩
 generalize zH a = A at *
 generalize zH e = E at *
 simp only [zxx, FSpec.d, zkz, h3]
 cases b with
 | false => exact ⟨_, rfl, by
   constructor
   ·intro h; cases h
   ·intro h; exact absurd (h2.2 (hpq.1 (by rw [h]))) (by simp)⟩
 | true =>
  have hpe : A.1 = E.1 := hpq.2 (h2.1 rfl)
  simp only
  split
  ·rename_i c1
   split
   ·rename_i c2
    refine ⟨_, rfl, ⟨fun h => ?_, fun h => (by rw [h]; simp)⟩⟩
    simp only [Bool.and_eq_true, beq_iff_eq, and_true] at c1 c2 h
    simp [Prod.ext_iff, *]
   ·rename_i c2
    refine ⟨_, rfl, ⟨fun h => (by cases h), fun h => ?_⟩⟩
    rw [h] at c2; simp at c2
  ·rename_i c1
   refine ⟨_, rfl, ⟨fun h => (by cases h), fun h => ?_⟩⟩
   rw [h] at c1; simp at c1
theorem zyF (a e : RT0) (ha : za7 a) (he : za7 e) : ∃ b, zxs 600 (a, e) = some b /\ (b = true ↔ a = e) := by
 obtain ⟨b, h1, h2⟩ := zrj a e ha he
 simp only [zxs, FSpec.d, zkj, h1]
 have hae : a = e ↔ nmE a = nmE e /\ zH a = zH e := ⟨fun h => by rw [h]; exact ⟨rfl, rfl⟩, fun ⟨x, y⟩ => zwp x y⟩
 by_cases hn : nmE a = nmE e
 ·have ee := (congrArg (eqP (nmE a)) hn).symm.trans (JW (nmE a))
  simp only [eqP] at ee
  simp only [ee]
  exact ⟨b, rfl, by rw [h2, hae]; exact ⟨fun h => ⟨hn, h⟩, fun h => h.2⟩⟩
 ·have ee := zaT hn
  simp only [eqP] at ee
  simp only [ee]
  exact ⟨_, rfl, by rw [hae]; simp [hn]⟩
theorem ziM (a e : RT0) (ha : za7 a) (he : za7 e) : ∃ b, zkG 600 (a, e) = some b /\ (b = true ↔ a = e) := by
 obtain ⟨b, h1, h2⟩ := zyF a e ha he
 have hL : znL 600 ([zB e], [zB a], 1, 0) = some (bif b then .inr () else .inl false) := by
  show (jB 600).b _ _ ((jB 600).L 599) some = _
  have e1 : decide ((0 : Int) < 1) = true := by decide
  have e3 : i64 (0 + 1) = 1 := by decide
  obtain ⟨Lf, hLf⟩ : ∃ Lf, Lf = (jB 600).L 599 := ⟨_, rfl⟩
  have hz : Lf ([zB e], [zB a], 1, 1) = some (.inr ()) := by
   rw [hLf]
   show (jB 600).b _ _ ((jB 600).L 598) some = _
   simp only [jB]
   have e2 : decide ((1 : Int) < 1) = false := by decide
   simp only [e2]
  rw [<- hLf]
  simp only [jB]
  simp only [e1, Int.le_refl, if_true, Int.toNat_zero, List.getElem?_cons_zero, ZF, h1]
  cases b with
  | true => simp only [Bool.not_true, e3, hz]; rfl
  | false => simp only [Bool.not_false]; rfl
 refine ⟨b, ?_, h2⟩
 simp only [zkG, FSpec.d, zkK, zAF, zk1, zAR, zdX, List.length_cons, List.length_nil]
 have e0 : (((0 + 1 : Nat) : Int) != ((0 + 1 : Nat) : Int)) = false := by decide
 simp only [e0]
 have hL' : znL 600 ([zB e], [zB a], ((0 + 1 : Nat) : Int), 0) = some (bif b then .inr () else .inl false) := hL
 simp only [hL']
 cases b <;> rfl
theorem EvN.pk {e : RT0} (h : EvN e) : za7 e := by
 obtain ⟨n, _, h⟩ := h
 exact h.pk
end Go.Proofs.YthdgnfcbehcplaaDoor
end
section
namespace Go.Proofs.YthdgnfcbehcplaaDoor
structure EvG (e : RT0) : Prop where
 rv : zfL 600 [zB e] = some true
 pv : zib 600 [zB e] = some true
 pk : za7 e
theorem EvN.g {e : RT0} (h : EvN e) : EvG e := ⟨zyZ h, zxW h, h.pk⟩
theorem EvG.pv' {e : RT0} (h : EvG e) : zny 600 e = some true := by
 have := h.pv
 simp only [zny, FSpec.d, zlj]
 simp only [this]
structure VG (T : Int) (n i : Nat) (v : RT7) : Prop where
 kd : Kd6 (kdV v)
 at0 : 0 <= atV v
 atT : atV v <= T
 by1 : (kdV v = 1 \/ kdV v = 2) -> byV v = nob
 by2 : ¬ (kdV v = 1 \/ kdV v = 2) -> Per (byV v)
 in1 : kdV v ≠ 5 -> inV v = 0
 in2 : kdV v = 5 -> 0 <= inV v /\ inV v < n /\ inV v ≠ i
 ev : EvG (evV v)
def Stp (u v : RT7) : Prop := atV u <= atV v /\ zBF (kdV v) (kdV u) = true /\ (zch (kdV v) = true -> evV u = evV v)
structure XG (T : Int) (n i m : Nat) (x : List RT7) : Prop where
 ne : x ≠ []
 hd : ∀ h : 0 < x.length, kdV x[0] = 1
 vs : ∀ k (h : k < x.length), VG T n i x[k]
 st : ∀ k (h : k + 1 < x.length), Stp x[k] x[k + 1]
 le : x.length <= m
structure CG (T : Int) (m e : Nat) (C : List (List RT7)) : Prop where
 xs : ∀ k (h : k < C.length), XG T C.length k m C[k]
 le : C.length <= e
theorem VG.mono {T T' : Int} {n n' i : Nat} {v : RT7} (h : VG T n i v) (hT : T <= T') (hn : n <= n') : VG T' n' i v :=
 ⟨h.kd, h.at0, Int.le_trans h.atT hT, h.by1, h.by2, h.in1, fun e => by have := h.in2 e; omega, h.ev⟩
theorem XG.mono {T T' : Int} {n n' i m m' : Nat} {x : List RT7} (h : XG T n i m x) (hT : T <= T') (hn : n <= n') (hm : m <= m') : XG T' n' i m' x :=
 ⟨h.ne, h.hd, fun k hk => (h.vs k hk).mono hT hn, h.st, Nat.le_trans h.le hm⟩
theorem CG.mono {T T' : Int} {m m' e e' : Nat} {C : List (List RT7)} (h : CG T m e C) (hT : T <= T') (hm : m <= m') (he : e <= e') : CG T' m' e' C :=
 ⟨fun k hk => (h.xs k hk).mono hT (Nat.le_refl _) hm, Nat.le_trans h.le he⟩
theorem XG.pos {T : Int} {n i m : Nat} {x : List RT7} (h : XG T n i m x) : 0 < x.length := List.length_pos_iff.2 h.ne
theorem XG.snoc {T T' : Int} {n i m : Nat} {x : List RT7} {v : RT7} (h : XG T n i m x) (hT : T <= T') (hv : VG T' n i v) (hs : Stp (x.getLast h.ne) v) : XG T' n i (m + 1) (x ++ [v]) := by
 have hp := h.pos
 refine ⟨by simp, fun _ => ?_, fun k hk => ?_, fun k hk => ?_, by have := h.le; simp; omega⟩
 ·rw [List.getElem_append_left hp]; exact h.hd hp
 ·rw [List.getElem_append]
  split
  ·exact (h.vs k _).mono hT (Nat.le_refl _)
  ·simpa using hv
 ·simp at hk
  by_cases hl : k + 1 < x.length
  ·rw [List.getElem_append_left hl, List.getElem_append_left (by omega)]
   exact h.st k hl
  ·have e : k = x.length - 1 := by omega
   subst e
   rw [List.getLast_eq_getElem] at hs
   rw [List.getElem_append_left (by omega), List.getElem_append_right (by omega)]
   simpa using hs
theorem XG.one {T : Int} {n i m : Nat} {v : RT7} (hm : 1 <= m) (hv : VG T n i v) (h1 : kdV v = 1) : XG T n i m [v] :=
 ⟨by simp, fun _ => h1, fun k hk => by simp at hk; subst hk; exact hv, fun k hk => by simp at hk, hm⟩
theorem CG.set {T T' : Int} {m e i : Nat} {C : List (List RT7)} (h : CG T m e C) (hi : i < C.length) (hT : T <= T') {v : RT7} (hv : VG T' C.length i v) (hs : Stp (C[i].getLast (h.xs i hi).ne) v) : CG T' (m + 1) e (C.set i (C[i] ++ [v])) := by
 refine ⟨fun k hk => ?_, by simpa using h.le⟩
 simp at hk
 rw [List.length_set, List.getElem_set]
 split
 ·rename_i he; subst he; exact (h.xs i hi).snoc hT hv hs
 ·exact (h.xs k hk).mono hT (Nat.le_refl _) (by omega)
theorem CG.nil (T : Int) (m e : Nat) : CG T m e [] := ⟨fun k h => by simp at h, Nat.zero_le _⟩
theorem zBa {T : Int} {n i : Nat} {v : RT7} (h : VG T n i v) (k : Int) (X : List (List AV)) : zpo 600 ((i : Int), (n : Int), k, X, v) = some (.inr ((i : Int), (n : Int), k, X, v)) := by
 obtain ⟨hk, h0, hT, hb1, hb2, hi1, hi2, he⟩ := h
 obtain ⟨k1, a1, b1, i1, e1⟩ := v
 show (Jf 600).b _ _ ((Jf 600).L 599) some = _
 simp only [Jf]
 simp only [kdV, byV] at hk hb1 hb2
 have en : ((nob).toList == (⟨#[]⟩ : ByteArray).toList) = true := by kernel_rfl
 rcases hk with rfl | rfl | rfl | rfl | rfl | rfl
 ·rw [hb1 (by omega)]
  have e1 : ((1 : Int) == 1) = true := by decide
  simp only [e1, en, Bool.not_true]
 ·rw [hb1 (by omega)]
  have e1 : ((2 : Int) == 1) = false := by decide
  have e2 : ((2 : Int) == 2) = true := by decide
  simp only [e1, e2, en, Bool.not_true]
 all_goals
  have hp := (zmY (hb2 (by omega))).1
  simp only [hp]
  rfl
theorem zgR {T : Int} {n i m : Nat} {x : List RT7} (hT : T <= 18014398509481984) (hn : n <= 10000) (hm : m <= 100) (h : XG T n i m x) (hi : i < n) : ∀ (d k f : Nat), k + d = x.length -> d < f -> (jA 600).L f ((i : Int), (n : Int), (k : Int), x.map zM) = some (.inr (x.map zM)) := by
 intro d
 induction d with
 | zero =>
  intro k f hk hf
  obtain ⟨f, rfl⟩ := pS hf
  show (jA 600).b _ _ ((jA 600).L f) some = _
  have e2 : decide ((k : Int) < (x.length : Int)) = false := dF (by omega)
  simp only [jA]
  simp only [List.length_map, e2]
 | succ d ih =>
  intro k f hk hf
  obtain ⟨f, rfl⟩ := pS hf
  have hkl : k < x.length := by omega
  have r1 := ih (k + 1) f (by omega) (by omega)
  show (jA 600).b _ _ ((jA 600).L f) some = _
  generalize (jA 600).L f = Lf at r1 |-
  have e2 : decide ((k : Int) < (x.length : Int)) = true := dT (by omega)
  have h0 : 0 <= (k : Int) := by omega
  have hle := h.le
  have hv := h.vs k hkl
  have c1 : decide (x[k].1 < 1) = false := by rw [decide_eq_false_iff_not]; have := hv.kd.lt; simp only [kdV] at this; omega
  have c2 : decide (x[k].1 > 6) = false := by rw [decide_eq_false_iff_not]; have := hv.kd.lt; simp only [kdV] at this; omega
  have c3 : decide (x[k].2.1 < 0) = false := by rw [decide_eq_false_iff_not]; have := hv.at0; simp only [atV] at this; omega
  have c4 : decide (x[k].2.1 > 18014398509481984) = false := by rw [decide_eq_false_iff_not]; have := hv.atT; simp only [atV] at this; omega
  have c5 : zfL 600 [zB (zy x[k])] = some true := hv.ev.rv
  have c6 := zBa hv (k : Int) (x.map zM)
  have c7 : ∀ (b : Bool), (b = true ↔ x[k].2.2.2.1 = 0) -> (x[k].2.2.2.1 != 0) = !b := fun b hb => by
   cases b
   ·simp; intro e; simpa using hb.2 e
   ·simp [hb.1 rfl]
  simp only [jA]
  simp only [List.length_map, e2, h0, if_true, Int.toNat_natCast, zp5 x k hkl, rd7, c1, c2, c3, c4, c5, Bool.not_true, c6]
  by_cases k5 : x[k].1 = 5
  ·have d1 : (x[k].1 != 5) = false := by simp [k5]
   have d2 : (x[k].1 == 5) = true := by simp [k5]
   obtain ⟨p1, p2, p3⟩ := hv.in2 k5
   simp only [inV] at p1 p2 p3
   have d3 : decide (x[k].2.2.2.1 < 0) = false := dF (by omega)
   have d4 : decide (x[k].2.2.2.1 >= (n : Int)) = false := dF (by omega)
   have d5 : (x[k].2.2.2.1 == (i : Int)) = false := by simpa using p3
   simp only [d1, d2, d3, d4, d5]
   by_cases hk0 : k = 0
   ·exfalso
    subst hk0
    have := h.hd hkl
    simp only [kdV] at this
    omega
   ·have d6 : ((k : Int) == 0) = false := by simp [hk0]
    obtain ⟨k', rfl⟩ : ∃ k', k = k' + 1 := ⟨k - 1, by omega⟩
    obtain ⟨s1, s2, s3⟩ := h.st k' hkl
    have d7 : i64 (((k' + 1 : Nat) : Int) - 1) = (k' : Int) := by rw [Zz (by omega)]; omega
    have d8 : decide (x[k' + 1].2.1 < x[k'].2.1) = false := by rw [decide_eq_false_iff_not]; simp only [atV] at s1; omega
    have d9 := zAr 600 x[k' + 1] x[k']
    have d10 := zpH 600 x[k' + 1].1
    have h0' : 0 <= (k' : Int) := by omega
    have n1 := zp (k := k' + 1) (by omega)
    rw [s2] at d9
    simp only [d6, d7, h0', if_true, Int.toNat_natCast, zp5 x k' (by omega), rd7, d8, d9, Bool.not_true, d10, n1]
    cases hkp : zch x[k' + 1].1 with
    | false => exact r1
    | true =>
     have s4 := s3 hkp
     obtain ⟨b, q1, q2⟩ := zfu (evV x[k']) (evV x[k' + 1]) (h.vs k' (by omega)).ev.pk hv.ev.pk
     rw [q2.2 s4] at q1
     replace q1 : zcM 600 (zy x[k'], zy x[k' + 1]) = some true := q1
     simp only [q1, Bool.not_true]
     exact r1
  ·have d1 : (x[k].1 != 5) = true := by simp [k5]
   have d2 : (x[k].1 == 5) = false := by simp [k5]
   have d3 : (x[k].2.2.2.1 != 0) = false := by have := hv.in1 k5; simp only [inV] at this; simp [this]
   simp only [d1, d2, d3]
   by_cases hk0 : k = 0
   ·subst hk0
    have d6 : (((0 : Nat) : Int) == 0) = true := by decide
    have d7 : (x[0].1 != 1) = false := by have := h.hd hkl; simp only [kdV] at this; simp [this]
    have n1 := zp (k := 0) (by omega)
    simp only [d6, d7, n1]
    exact r1
   ·have d6 : ((k : Int) == 0) = false := by simp [hk0]
    obtain ⟨k', rfl⟩ : ∃ k', k = k' + 1 := ⟨k - 1, by omega⟩
    obtain ⟨s1, s2, s3⟩ := h.st k' hkl
    have d7 : i64 (((k' + 1 : Nat) : Int) - 1) = (k' : Int) := by rw [Zz (by omega)]; omega
    have d8 : decide (x[k' + 1].2.1 < x[k'].2.1) = false := by rw [decide_eq_false_iff_not]; simp only [atV] at s1; omega
    have d9 := zAr 600 x[k' + 1] x[k']
    have d10 := zpH 600 x[k' + 1].1
    have h0' : 0 <= (k' : Int) := by omega
    have n1 := zp (k := k' + 1) (by omega)
    rw [s2] at d9
    simp only [d6, d7, h0', if_true, Int.toNat_natCast, zp5 x k' (by omega), rd7, d8, d9, Bool.not_true, d10, n1]
    cases hkp : zch x[k' + 1].1 with
    | false => exact r1
    | true =>
     have s4 := s3 hkp
     obtain ⟨b, q1, q2⟩ := zfu (evV x[k']) (evV x[k' + 1]) (h.vs k' (by omega)).ev.pk hv.ev.pk
     rw [q2.2 s4] at q1
     replace q1 : zcM 600 (zy x[k'], zy x[k' + 1]) = some true := q1
     simp only [q1, Bool.not_true]
     exact r1
end Go.Proofs.YthdgnfcbehcplaaDoor
end
section
namespace Go.Proofs.YthdgnfcbehcplaaDoor
theorem rd6 (x : List RT7) : zf1 (zzd x) = some (x.map zM, ()) := zw1 x
theorem zqy {T : Int} {n i m : Nat} {x : List RT7} (hT : T <= 18014398509481984) (hn : n <= 10000) (hm : m <= 100) (h : XG T n i m x) (hi : i < n) : zyT 600 (x.map zM, (i : Int), (n : Int)) = some true := by
 have h1 : (jA 600).L 600 ((i : Int), (n : Int), 0, x.map zM) = some (.inr (x.map zM)) := zgR hT hn hm h hi x.length 0 600 (by omega) (by have := h.le; omega)
 have hp := h.pos
 have hl := h.le
 simp only [zyT, FSpec.d, zec, zvM, h1, List.length_map]
 have e1 : decide ((x.length : Int) >= 1) = true := dT (by omega)
 have e2 : decide ((x.length : Int) <= 100) = true := dT (by omega)
 simp only [e1, e2]
theorem zjy {T : Int} {m e : Nat} {C : List (List RT7)} (hT : T <= 18014398509481984) (he : e <= 500) (hm : m <= 100) (h : CG T m e C) : ∀ (d k f : Nat), k + d = C.length -> d < f -> (jG 600).L f ((k : Int), zP C) = some (.inr (zP C)) := by
 intro d
 induction d with
 | zero =>
  intro k f hk hf
  obtain ⟨f, rfl⟩ := pS hf
  show (jG 600).b _ _ ((jG 600).L f) some = _
  have e2 : decide ((k : Int) < (C.length : Int)) = false := dF (by omega)
  simp only [jG]
  simp only [zU, e2]
 | succ d ih =>
  intro k f hk hf
  obtain ⟨f, rfl⟩ := pS hf
  have hkl : k < C.length := by omega
  have r1 := ih (k + 1) f (by omega) (by omega)
  show (jG 600).b _ _ ((jG 600).L f) some = _
  generalize (jG 600).L f = Lf at r1 |-
  have e2 : decide ((k : Int) < (C.length : Int)) = true := dT (by omega)
  have h0 : 0 <= (k : Int) := by omega
  have hle := h.le
  have v1 := zqy hT (by omega) hm (h.xs k hkl) hkl
  simp only [jG]
  simp only [zU, e2, h0, if_true, Int.toNat_natCast, Zc C k hkl, rd6, v1, Bool.not_true, zp (show k < 1000000 by omega)]
  exact r1
theorem zpu {T : Int} {m e : Nat} {C : List (List RT7)} (hT : T <= 18014398509481984) (he : e <= 500) (hm : m <= 100) (h : CG T m e C) : ztl 600 (zP C) = some true := by
 have hle := h.le
 have h1 : (jG 600).L 600 (0, zP C) = some (.inr (zP C)) := zjy hT he hm h C.length 0 600 (by omega) (by omega)
 simp only [ztl, FSpec.d, zdW, zwx, h1, zU]
 have e2 : decide ((C.length : Int) <= 500) = true := dT (by omega)
 simp only [e2]
theorem zeC (x : List RT7) (h : x ≠ []) (hl : x.length <= 1000) : zht 600 (x.map zM) = some (x.getLast h) := by
 have hp := List.length_pos_iff.2 h
 have e1 : i64 ((x.length : Int) - 1) = ((x.length - 1 : Nat) : Int) := by rw [Zz (by omega)]; omega
 have h0 : 0 <= ((x.length - 1 : Nat) : Int) := by omega
 simp only [zht, FSpec.d, zd2, List.length_map, e1, h0, if_true, Int.toNat_natCast, zp5 x (x.length - 1) (by omega), rd7]
 rw [List.getLast_eq_getElem]
theorem znf (x : List RT7) (h : x ≠ []) (hl : x.length <= 1000) : zml 600 (x.map zM) = some (x.getLast h) := zeC x h hl
theorem XG.last {T : Int} {n i m : Nat} {x : List RT7} (h : XG T n i m x) : VG T n i (x.getLast h.ne) := by
 rw [List.getLast_eq_getElem]
 exact h.vs _ _
theorem zhv {T : Int} {m e : Nat} {C : List (List RT7)} {now : Int} (hT : T <= now) (he : e <= 500) (hm : m <= 100) (h : CG T m e C) : ∀ (d k f : Nat), k + d = C.length -> d < f -> (jz 600).L f (now, (k : Int), zP C) = some (.inr ()) := by
 intro d
 induction d with
 | zero =>
  intro k f hk hf
  obtain ⟨f, rfl⟩ := pS hf
  show (jz 600).b _ _ ((jz 600).L f) some = _
  have e2 : decide ((k : Int) < (C.length : Int)) = false := dF (by omega)
  simp only [jz]
  simp only [zU, e2]
 | succ d ih =>
  intro k f hk hf
  obtain ⟨f, rfl⟩ := pS hf
  have hkl : k < C.length := by omega
  have r1 := ih (k + 1) f (by omega) (by omega)
  show (jz 600).b _ _ ((jz 600).L f) some = _
  generalize (jz 600).L f = Lf at r1 |-
  have e2 : decide ((k : Int) < (C.length : Int)) = true := dT (by omega)
  have h0 : 0 <= (k : Int) := by omega
  have hle := h.le
  have hx := h.xs k hkl
  have v1 := zeC C[k] hx.ne (by have := hx.le; omega)
  have v2 : decide ((C[k].getLast hx.ne).2.1 > now) = false := by rw [decide_eq_false_iff_not]; have := hx.last.atT; simp only [atV] at this; omega
  simp only [jz]
  simp only [zU, e2, h0, if_true, Int.toNat_natCast, Zc C k hkl, rd6, v1, v2, zp (show k < 1000000 by omega)]
  exact r1
theorem zi5 {T : Int} {m e : Nat} {C : List (List RT7)} {now : Int} (hT : T <= now) (he : e <= 500) (hm : m <= 100) (h : CG T m e C) : zs6 600 (zP C, now) = some true := by
 have hle := h.le
 have h1 : (jz 600).L 600 (now, 0, zP C) = some (.inr ()) := zhv hT he hm h C.length 0 600 (by omega) (by omega)
 simp only [zs6, FSpec.d, zdO, zve, h1]
def FC (D : List (List RT7)) (k : Nat) (cs : List AV) : Prop := cs.length = D.length /\ ∀ i (h : i < D.length), ∃ t, cs[i]? = some (AV.list 29 (D[i].map zM) t) /\ (t = none \/ t = some (TOB + i)) /\ (k <= i -> t = some (TOB + i))
theorem FC.nil : FC [] 0 [] := ⟨rfl, fun i h => by simp at h⟩
theorem FC.to {D : List (List RT7)} {k l : Nat} {cs : List AV} (h : FC D k cs) (hl : k <= l) : FC D l cs :=
 ⟨h.1, fun i hi => by obtain ⟨t, h1, h2, h3⟩ := h.2 i hi; exact ⟨t, h1, h2, fun e => h3 (by omega)⟩⟩
theorem FC.mp {D : List (List RT7)} {k : Nat} {cs : List AV} (h : FC D k cs) (g : AV -> AV) (hg : ∀ i xs t, i < D.length -> t = none \/ t = some (TOB + i) -> g (AV.list 29 xs t) = AV.list 29 xs t) : cs.map g = cs := by
 refine List.ext_getElem (by simp) fun i h1 h2 => ?_
 have hi : i < D.length := by rw [<- h.1]; exact h2
 obtain ⟨t, e1, e2, _⟩ := h.2 i hi
 rw [List.getElem?_eq_getElem h2] at e1
 rw [List.getElem_map, Option.some.inj e1, hg i _ t hi e2]
theorem FC.dF {D : List (List RT7)} {k : Nat} {cs : List AV} (h : FC D k cs) : cs.map datF = cs := h.mp datF fun i xs t _ ht => by
 rcases ht with rfl | rfl
 ·rfl
 ·have : Nat.ble TOB (TOB + i) = true := Nat.ble_eq_true_of_le (by omega)
  simp only [datF, this, cond_true]
theorem FC.dJ {D : List (List RT7)} {k : Nat} {cs : List AV} (h : FC D k cs) : cs.map (datJ 0 D.length) = cs := h.mp _ fun i xs t hi ht => by
 rcases ht with rfl | rfl
 ·rfl
 ·have : Nat.ble (TOB + 0) (TOB + i) = true := Nat.ble_eq_true_of_le (by omega)
  have h2 : Nat.ble (TOB + D.length) (TOB + i) = false := by
   cases hb : Nat.ble (TOB + D.length) (TOB + i) with
   | false => rfl
   | true => have := Nat.le_of_ble_eq_true hb; omega
  simp only [datJ, this, h2, Bool.not_false, Bool.and_self, cond_true]
def zah (D : List (List RT7)) : List AV := D.map fun x => AV.list 29 (x.map zM) none
theorem zaM (D : List (List RT7)) : (zah D).length = D.length := by simp [zah]
theorem FC.d0 {D : List (List RT7)} {k : Nat} {cs : List AV} (h : FC D k cs) : cs.map dat0 = zah D := by
 refine List.ext_getElem (by simp [zah, h.1]) fun i h1 h2 => ?_
 have hi : i < D.length := by simpa [zah] using h2
 have h3 : i < cs.length := by rw [h.1]; exact hi
 obtain ⟨t, e1, e2, _⟩ := h.2 i hi
 rw [List.getElem?_eq_getElem h3] at e1
 rw [List.getElem_map, Option.some.inj e1]
 simp only [zah, List.getElem_map]
 rcases e2 with rfl | rfl <;> rfl
theorem jO (D : List (List RT7)) : (zah D).map dat0 = zah D := by
 simp only [zah, List.map_map]; rfl
theorem zu0 (C D : List (List RT7)) : zah C ++ zah D = zah (C ++ D) := by simp [zah]
theorem zcE : ∀ (D : List (List RT7)), zJ (zah D) 1 D.length = zP D
 | [] => rfl
 | x :: D => by
  show _ :: _ = _ :: _
  congr 1
  exact zcE D
theorem zen (D : List (List RT7)) : zJ ((zah D).take (D.length * 1)) 1 D.length = zP D := by
 rw [Nat.mul_one, List.take_of_length_le (by simp [zah]), zcE]
theorem FC.set {D : List (List RT7)} {k : Nat} {cs : List AV} (h : FC D k cs) (hk : k < D.length) (y : List RT7) {q : Nat} (hq : q < TOB) : FC (D.set k y) (k + 1) ((splice cs k [AV.list 29 (y.map zM) (some q)]).map datF) := by
 refine ⟨by simp [splice, h.1], fun i hi => ?_⟩
 simp at hi
 have h3 : i < cs.length := by rw [h.1]; exact hi
 obtain ⟨t, e1, e2, e3⟩ := h.2 i hi
 rw [List.getElem?_eq_getElem h3] at e1
 by_cases e : k = i
 ·subst e
  refine ⟨none, ?_, .inl rfl, fun e => by omega⟩
  have : Nat.ble TOB q = false := by
   cases hb : Nat.ble TOB q with
   | false => rfl
   | true => have := Nat.le_of_ble_eq_true hb; omega
  show ((cs.set k _).map _)[k]? = _
  rw [List.getElem?_map, List.getElem?_set_self h3, List.getElem_set_self]
  simp only [Option.map, datF, this, cond_false]
 ·refine ⟨t, ?_, e2, fun e' => e3 (by omega)⟩
  show ((cs.set k _).map _)[i]? = _
  rw [List.getElem?_map, List.getElem?_set_ne e, List.getElem?_eq_getElem h3, List.getElem_set_ne e, Option.some.inj e1]
  rcases e2 with rfl | rfl
  ·rfl
  ·have : Nat.ble TOB (TOB + i) = true := Nat.ble_eq_true_of_le (by omega)
   simp only [Option.map, datF, this, cond_true]
theorem FC.snoc {D : List (List RT7)} {cs : List AV} (h : FC D 0 cs) (y : List RT7) : FC (D ++ [y]) 0 ((cs.take (D.length * 1) ++ [AV.list 29 (y.map zM) (some (TOB + D.length))]).map datF) := by
 rw [Nat.mul_one, <- h.1, List.take_length, List.map_append, h.dF]
 have hb : Nat.ble TOB (TOB + cs.length) = true := Nat.ble_eq_true_of_le (by omega)
 simp only [List.map, datF, hb, cond_true]
 refine ⟨by simp [h.1], fun i hi => ?_⟩
 simp at hi
 by_cases e : i < D.length
 ·obtain ⟨t, e1, e2, e3⟩ := h.2 i e
  refine ⟨t, ?_, e2, e3⟩
  rw [List.getElem?_append_left (by rw [h.1]; exact e), e1, List.getElem_append_left e]
 ·obtain rfl : i = D.length := by omega
  refine ⟨some (TOB + D.length), ?_, .inr rfl, fun _ => rfl⟩
  rw [List.getElem?_append_right (by rw [h.1]; omega), List.getElem_append_right (by omega)]
  simp [h.1]
theorem zpV {m e : Nat} {C : List (List RT7)} (he : C.length <= 500) (hm : ∀ x ∈ C, x.length <= 1000) (X : List (List AV)) : ∀ (d k f : Nat) (cs : List AV), k + d = C.length -> d < f -> FC (C.take k) 0 cs -> ∃ cs', (ZL 600).L f ((k : Int), zP C, X, k, cs, 0, k) = some (X, C.length, cs', 0, C.length) /\ FC C 0 cs' := by
 intro d
 induction d with
 | zero =>
  intro k f cs hk hf hc
  obtain ⟨f, rfl⟩ := pS hf
  obtain rfl : k = C.length := by omega
  rw [List.take_length] at hc
  refine ⟨cs, ?_, hc⟩
  show (ZL 600).b _ _ ((ZL 600).L f) some = _
  have e2 : decide ((C.length : Int) < (C.length : Int)) = false := dF (by omega)
  simp only [ZL]
  simp only [zU, e2, hc.dF]
 | succ d ih =>
  intro k f cs hk hf hc
  obtain ⟨f, rfl⟩ := pS hf
  have hkl : k < C.length := by omega
  have hn := hc.snoc C[k]
  have hlk : (C.take k).length = k := by simp; omega
  rw [hlk, List.take_append_getElem] at hn
  obtain ⟨cs', r1, r2⟩ := ih (k + 1) f _ (by omega) (by omega) hn
  refine ⟨cs', ?_, r2⟩
  show (ZL 600).b _ _ ((ZL 600).L f) some = _
  generalize (ZL 600).L f = Lf at r1 |-
  have e2 : decide ((k : Int) < (C.length : Int)) = true := dT (by omega)
  have h0 : 0 <= (k : Int) := by omega
  have hx := hm C[k] (List.getElem_mem _)
  have b1 : ((([] : List (List AV)).length + (C[k].map zM).length) * 288 <= zh) = True := by unfold zh; simp; omega
  have b2 : ((True /\ 0 <= k) /\ k * 1 <= cs.length /\ (k + 1) * 24 <= zh) = True := by rw [hc.1, hlk]; unfold zh; simp; omega
  simp only [ZL]
  simp only [zU, e2, h0, if_true, Int.toNat_natCast, Zc C k hkl, zm5, zye, b1, b2, List.nil_append, zp (show k < 1000000 by omega)]
  exact r1
theorem zv2 {C : List (List RT7)} (he : C.length <= 500) (hm : ∀ x ∈ C, x.length <= 1000) : ∃ cs, zgD 600 (zP C) = some (C.length, cs, 0, C.length) /\ FC C 0 cs := by
 obtain ⟨cs, h1, h2⟩ := zpV (m := 0) (e := 0) he hm [] C.length 0 600 [] (by omega) (by omega) (by simpa using FC.nil)
 refine ⟨cs, ?_, h2⟩
 replace h1 : (ZL 600).L 600 (0, zP C, [], 0, [], 0, 0) = some ([], C.length, cs, 0, C.length) := h1
 simp only [zgD, FSpec.d, zan, zpa, h1, h2.dF]
theorem CG.small {T : Int} {m e : Nat} {C : List (List RT7)} (h : CG T m e C) (hm : m <= 1000) : ∀ x ∈ C, x.length <= 1000 := fun x hx => by
 obtain ⟨k, hk, rfl⟩ := List.getElem_of_mem hx
 exact Nat.le_trans (h.xs k hk).le hm
end Go.Proofs.YthdgnfcbehcplaaDoor
end
section
namespace Go.Proofs.YthdgnfcbehcplaaDoor
theorem zeF : ∀ (D : List (List RT7)) (cs : List AV), cs.map dat0 = zah D -> zJ cs 1 D.length = zP D
 | [], _, _ => rfl
 | x :: D, [], h => by cases h
 | x :: D, c :: cs, h => by
  have h' : dat0 c :: cs.map dat0 = AV.list 29 (x.map zM) none :: zah D := h
  injection h' with h1 h2
  show [dat0 c] :: zJ cs 1 D.length = zzd x :: zP D
  rw [h1, zeF D cs h2]; rfl
theorem FC.sp {D : List (List RT7)} {k : Nat} {cs : List AV} (h : FC D k cs) (i : Nat) (y : List RT7) (q : Nat) : (splice cs i [AV.list 29 (y.map zM) (some q)]).map dat0 = zah (D.set i y) := by
 show (cs.set i _).map dat0 = _
 rw [List.map_set, h.d0]
 simp only [zah, List.map_set]
 rfl
theorem FC.csp {D : List (List RT7)} {k : Nat} {cs : List AV} (h : FC D k cs) (i : Nat) (y : List RT7) (q : Nat) : zJ ((splice cs i [AV.list 29 (y.map zM) (some q)]).take (D.length * 1)) 1 D.length = zP (D.set i y) := by
 rw [Nat.mul_one, List.take_of_length_le (by rw [Zk, h.1]; exact Nat.le_refl _)]
 have := zeF (D.set i y) _ (h.sp i y q)
 rw [List.length_set] at this
 exact this
def zqs (k t : Int) (b : ByteArray) (to : Int) (e1 last : RT0) : RT7 := (k, t, b, to, if zch k = true then last else e1)
structure Say (k : Int) (b : ByteArray) (to : Int) (e1 : RT0) : Prop where
 kd : k = 3 \/ k = 4 \/ k = 5 \/ k = 6
 per : Per b
 ev : k = 3 -> EvG e1
 to0 : k ≠ 5 -> to = 0
 to1 : 0 <= to
theorem Say.vg {k : Int} {b : ByteArray} {to : Int} {e1 : RT0} (h : Say k b to e1) {T t : Int} {n i m : Nat} {x : List RT7} (hx : XG T n i m x) (hT : T <= t) (hl : to < n) (hs : k = 5 -> to ≠ i) : VG t n i (zqs k t b to e1 (evV (x.getLast hx.ne))) := by
 have hL := hx.last
 obtain ⟨hk, hp, he, h0, h1⟩ := h
 refine ⟨by unfold Kd6 kdV zqs; dsimp only; omega, Int.le_trans hL.at0 (Int.le_trans hL.atT hT), Int.le_refl _, fun h => by simp only [zqs, kdV] at h; omega, fun _ => hp, h0, fun h => ⟨h1, hl, hs h⟩, ?_⟩
 show EvG (if zch k = true then _ else _)
 rcases hk with rfl | rfl | rfl | rfl
 ·rw [if_neg (by decide)]; exact he rfl
 ·rw [if_pos (by decide)]; exact hL.ev
 ·rw [if_pos (by decide)]; exact hL.ev
 ·rw [if_pos (by decide)]; exact hL.ev
theorem Say.stp {k : Int} {b : ByteArray} {to : Int} {e1 : RT0} (h : Say k b to e1) {T t : Int} {n i m : Nat} {x : List RT7} (hx : XG T n i m x) (hT : T <= t) (ho : k = 6 -> Z7 (kdV (x.getLast hx.ne)) = false) : Stp (x.getLast hx.ne) (zqs k t b to e1 (evV (x.getLast hx.ne))) := by
 have hL := hx.last
 obtain ⟨hk, hp, he, h0, h1⟩ := h
 refine ⟨Int.le_trans hL.atT hT, ?_, fun h => ?_⟩
 ·show zBF k _ = true
  rcases hk with rfl | rfl | rfl | rfl
  ·rfl
  ·rfl
  ·rfl
  ·show (!(Z7 _)) = true
   rw [ho rfl]; rfl
 ·replace h : zch k = true := h
  show _ = (if zch k = true then _ else _)
  rw [if_pos h]
theorem zqG {T t : Int} {m e : Nat} {C : List (List RT7)} (hC : CG T m e C) (he : e <= 500) (hm : m < 100) (hT : T <= t) (ht0 : 0 <= t) (ht : t <= 18014398509481984) {k : Int} {b : ByteArray} {to : Int} {e1 : RT0} (hs : Say k b to e1) (id : Nat) : ∃ d y, zdV 600 (zP C, (id : Int), (k, t, b, to, e1)) = some (d, y) /\ (y = 0 -> ∃ C', d = zP C' /\ CG t (m + 1) e C') := by
 have hle := hC.le
 have hV := zpu (by omega) he (by omega) hC
 have hP := (zmY hs.per).1
 have hL := zi5 hT he (by omega) hC
 have h2 : zvh 600 ((id : Int), zP C, (k, t, b, to, e1), []) = some (.inr ((id : Int), zP C, (k, t, b, to, e1), [])) := by
  show (zar 600).b _ _ ((zar 600).L 599) some = _
  simp only [zar]
  simp only [hV, hP, Bool.not_true]
  by_cases k3 : k = 3
  ·have c1 : (k == 3) = true := by simp [k3]
   have c2 : zfL 600 [zB (zy (k, t, b, to, e1))] = some true := (hs.ev k3).rv
   simp only [c1, c2, Bool.not_true]
  ·have c1 : (k == 3) = false := by simp [k3]
   simp only [c1]
 simp only [zdV, FSpec.d, zd4, h2, zU]
 have n1 : decide ((id : Int) < 0) = false := dF (by omega)
 simp only [n1]
 by_cases c1 : id < C.length
 case neg =>
  have n2 : decide ((id : Int) >= (C.length : Int)) = true := dT (by omega)
  simp only [n2]
  exact ⟨_, _, rfl, fun h => by cases h⟩
 have n2 : decide ((id : Int) >= (C.length : Int)) = false := dF (by omega)
 have n3 : decide (to < 0) = false := by rw [decide_eq_false_iff_not]; have := hs.to1; omega
 simp only [n2, n3]
 by_cases c2 : to < C.length
 case neg =>
  have n4 : decide (to >= (C.length : Int)) = true := dT (by omega)
  simp only [n4]
  exact ⟨_, _, rfl, fun h => by cases h⟩
 have n4 : decide (to >= (C.length : Int)) = false := dF (by omega)
 have n5 : decide (t < 0) = false := dF (by omega)
 have n6 : decide (t > 18014398509481984) = false := dF (by omega)
 have h0 : 0 <= (id : Int) := by omega
 have hx := hC.xs id c1
 have hxl := hx.le
 have hla := zeC C[id] hx.ne (by omega)
 simp only [n4, n5, n6, hL, Bool.not_true, h0, if_true, Int.toNat_natCast, Zc C id c1, rd6, hla]
 obtain ⟨L, hLd⟩ : ∃ L, L = C[id].getLast hx.ne := ⟨_, rfl⟩
 rw [<- hLd]
 have hop := zmI 600 L
 have h19 : (zfa 600 ((id : Int), zP C, (k, t, b, to, e1), [], L) = some (.inl ((id : Int), 10, zP C, (k, t, b, to, e1), [], L))) \/ ((k = 5 -> to ≠ (id : Int)) /\ (k = 6 -> Z7 (kdV L) = false) /\ zfa 600 ((id : Int), zP C, (k, t, b, to, e1), [], L) = some (.inr ((id : Int), zP C, (k, t, b, to, e1), [], L))) := by
  have hu : ∀ y, (jh 600).b ((id : Int), zP C, (k, t, b, to, e1), [], L) _ ((jh 600).L 599) some = y -> zfa 600 ((id : Int), zP C, (k, t, b, to, e1), [], L) = y := fun y h => h
  rcases hs.kd with rfl | rfl | rfl | rfl
  ·exact .inr ⟨fun h => (by cases h), fun h => (by cases h), hu _ (by kernel_rfl)⟩
  ·exact .inr ⟨fun h => (by cases h), fun h => (by cases h), hu _ (by kernel_rfl)⟩
  ·by_cases c3 : to = (id : Int)
   ·refine .inl (hu _ ?_)
    have c4 : (to == (id : Int)) = true := by simp [c3]
    have c5 : ((5 : Int) == 5) = true := by decide
    simp only [jh]
    simp only [c4, c5]
   ·refine .inr ⟨fun _ => c3, fun h => (by cases h), hu _ ?_⟩
    have c4 : (to == (id : Int)) = false := by simp [c3]
    have c5 : ((5 : Int) == 5) = true := by decide
    have c6 : ((5 : Int) == 6) = false := by decide
    simp only [jh]
    simp only [c4, c5, c6]
  ·have c5 : ((6 : Int) == 5) = false := by decide
   have c6 : ((6 : Int) == 6) = true := by decide
   cases ho : Z7 (kdV L) with
   | true =>
    refine .inl (hu _ ?_)
    rw [ho] at hop
    simp only [jh]
    simp only [c5, c6, hop]
   | false =>
    refine .inr ⟨fun h => (by cases h), fun _ => rfl, hu _ ?_⟩
    rw [ho] at hop
    simp only [jh]
    simp only [c5, c6, hop]
 rcases h19 with h19 | ⟨g1, g2, h19⟩
 ·simp only [h19]
  exact ⟨_, _, rfl, fun h => by cases h⟩
 have hv := hs.vg hx hT c2 g1
 have hst := hs.stp hx hT (by rw [<- hLd]; exact g2)
 rw [<- hLd] at hv hst
 have hn := hC.set c1 hT hv (by rw [<- hLd]; exact hst)
 have m1 : (((C[id].map zM).length : Int) == 100) = false := by simp; omega
 have hkp := zpH 600 k
 obtain ⟨cs, q1, q2⟩ := zv2 (C := C) (by omega) (hC.small (by omega))
 obtain ⟨tk, q3, _, q4⟩ := q2.2 id c1
 rw [q4 (Nat.zero_le _)] at q3
 have hI : (id : Int) < (C.length : Int) := by omega
 have b1 : ((C[id].map zM).length + [zM (zqs k t b to e1 (evV L))].length) * 288 <= zh := by unfold zh; simp; omega
 have b2 : id + 1 <= cs.length := by rw [q2.1]; exact c1
 have b3 : ∀ q, C.length * 1 <= (splice cs id q).length := fun q => by rw [Zk, q2.1]; omega
 have hr : (C[id].map zM) ++ [zM (zqs k t b to e1 (evV L))] = (C[id] ++ [zqs k t b to e1 (evV L)]).map zM := by simp
 have hch := q2.csp id (C[id] ++ [zqs k t b to e1 (evV L)]) 7872
 simp only [h19, h0, if_true, Int.toNat_natCast, Zc C id c1, zm5, zye, m1, hkp, q1]
 unfold zqs at b1 hr hch hn
 rw [Nat.mul_one] at hch
 have b3' : ∀ q, C.length <= (splice cs id q).length := fun q => by have := b3 q; omega
 cases hkk : zch k with
 | true =>
  simp only [hkk, if_true] at b1 hr hch hn
  simp only [hI, h0, q2.dJ, Nat.zero_add, Nat.mul_one, Nat.add_zero, q3, c1, and_self, if_true, Nat.zero_le, b2]
  rw [if_pos b1, if_pos (b3' _)]
  refine ⟨_, _, rfl, fun _ => ⟨_, ?_, hn⟩⟩
  rw [<- hch, <- hr]
 | false =>
  simp only [hkk, Bool.false_eq_true, if_false] at b1 hr hch hn
  simp only [hI, h0, q2.dJ, Nat.zero_add, Nat.mul_one, Nat.add_zero, q3, c1, and_self, if_true, Nat.zero_le, b2]
  rw [if_pos b1, if_pos (b3' _)]
  refine ⟨_, _, rfl, fun _ => ⟨_, ?_, hn⟩⟩
  rw [<- hch, <- hr]
theorem ztb {T t : Int} {m e : Nat} {C : List (List RT7)} (hC : CG T m e C) (he : e <= 500) (hm : m < 100) (hT : T <= t) (ht0 : 0 <= t) (ht : t <= 18014398509481984) {b : ByteArray} {x : RT0} (hb : Per b) (hx : EvG x) (id : Nat) : ∃ d y, zyw 600 (zP C, (id : Int), b, x, t) = some (d, y) /\ (y = 0 -> ∃ C', d = zP C' /\ CG t (m + 1) e C') := by
 obtain ⟨d, y, h1, h2⟩ := zqG hC he hm hT ht0 ht (k := 3) (b := b) (to := 0) (e1 := x) ⟨.inl rfl, hb, fun _ => hx, fun _ => rfl, Int.le_refl _⟩ id
 refine ⟨d, y, ?_, h2⟩
 show (match zdV 600 (zP C, (id : Int), (3, t, b, 0, x)) with | some y1 => some y1 | none => none) = _
 rw [h1]
@[reducible] def zE : RT0 := ((⟨#[]⟩ : ByteArray), (⟨#[]⟩ : ByteArray), (⟨#[]⟩ : ByteArray), (⟨#[]⟩ : ByteArray), 0, 0, 0, 0, 0, ([] : List (List AV)), 0, 0, 0, 0, 0, 0, 0, 0, 0, 0, 0, 0, 0, 0, 0, ())
theorem zri {T t : Int} {m e : Nat} {C : List (List RT7)} (hC : CG T m e C) (he : e <= 500) (hm : m < 100) (hT : T <= t) (ht0 : 0 <= t) (ht : t <= 18014398509481984) {b : ByteArray} (hb : Per b) (id : Nat) : ∃ d y, zy4 600 (zP C, (id : Int), b, t) = some (d, y) /\ (y = 0 -> ∃ C', d = zP C' /\ CG t (m + 1) e C') := by
 obtain ⟨d, y, h1, h2⟩ := zqG hC he hm hT ht0 ht (k := 4) (b := b) (to := 0) (e1 := zE) ⟨.inr (.inl rfl), hb, fun h => (by cases h), fun _ => rfl, Int.le_refl _⟩ id
 refine ⟨d, y, ?_, h2⟩
 show (match zdV 600 (zP C, (id : Int), (4, t, b, 0, zE)) with | some y1 => some y1 | none => none) = _
 rw [h1]
theorem zxr {T t : Int} {m e : Nat} {C : List (List RT7)} (hC : CG T m e C) (he : e <= 500) (hm : m < 100) (hT : T <= t) (ht0 : 0 <= t) (ht : t <= 18014398509481984) {b : ByteArray} (hb : Per b) (id to : Nat) : ∃ d y, zwS 600 (zP C, (id : Int), (to : Int), b, t) = some (d, y) /\ (y = 0 -> ∃ C', d = zP C' /\ CG t (m + 1) e C') := by
 obtain ⟨d, y, h1, h2⟩ := zqG hC he hm hT ht0 ht (k := 5) (b := b) (to := (to : Int)) (e1 := zE) ⟨.inr (.inr (.inl rfl)), hb, fun h => (by cases h), fun h => absurd rfl h, by omega⟩ id
 refine ⟨d, y, ?_, h2⟩
 show (match zdV 600 (zP C, (id : Int), (5, t, b, (to : Int), zE)) with | some y1 => some y1 | none => none) = _
 rw [h1]
theorem zpX {T t : Int} {m e : Nat} {C : List (List RT7)} (hC : CG T m e C) (he : e <= 500) (hm : m < 100) (hT : T <= t) (ht0 : 0 <= t) (ht : t <= 18014398509481984) {b : ByteArray} (hb : Per b) (id : Nat) : ∃ d y, zxP 600 (zP C, (id : Int), b, t) = some (d, y) /\ (y = 0 -> ∃ C', d = zP C' /\ CG t (m + 1) e C') := by
 obtain ⟨d, y, h1, h2⟩ := zqG hC he hm hT ht0 ht (k := 6) (b := b) (to := 0) (e1 := zE) ⟨.inr (.inr (.inr rfl)), hb, fun h => (by cases h), fun _ => rfl, Int.le_refl _⟩ id
 refine ⟨d, y, ?_, h2⟩
 show (match zdV 600 (zP C, (id : Int), (6, t, b, 0, zE)) with | some y1 => some y1 | none => none) = _
 rw [h1]
end Go.Proofs.YthdgnfcbehcplaaDoor
end
section
namespace Go.Proofs.YthdgnfcbehcplaaDoor
def ixD (A : List RT0) (nm : RT1) : Nat -> Int -> Prop := fun k y => (y = -1 /\ ∀ j (h : j < A.length), k <= j -> nmE A[j] ≠ nm) \/ ∃ j : Nat, y = (j : Int) /\ ∃ h : j < A.length, k <= j /\ nmE A[j] = nm /\ ∀ i (hi : i < A.length), k <= i -> i < j -> nmE A[i] ≠ nm
theorem zga (A : List RT0) (nm : RT1) (hA : A.length <= 500) : ∀ (d k f : Nat), k + d = A.length -> d < f -> ∃ y, (Z8 600).L f (A.map zB, (k : Int), nm) = some y /\ ∃ z, ixD A nm k z /\ ((z = -1 /\ y = .inr ()) \/ (0 <= z /\ y = .inl z)) := by
 intro d
 induction d with
 | zero =>
  intro k f hk hf
  obtain ⟨f, rfl⟩ := pS hf
  refine ⟨_, ?_, -1, .inl ⟨rfl, fun j h h' => by omega⟩, .inl ⟨rfl, rfl⟩⟩
  show (Z8 600).b _ _ ((Z8 600).L f) some = _
  have e2 : decide ((k : Int) < (A.length : Int)) = false := dF (by omega)
  simp only [Z8]
  simp only [List.length_map, e2]
 | succ d ih =>
  intro k f hk hf
  obtain ⟨f, rfl⟩ := pS hf
  have hkl : k < A.length := by omega
  have e2 : decide ((k : Int) < (A.length : Int)) = true := dT (by omega)
  have h0 : 0 <= (k : Int) := by omega
  by_cases hc : nmE A[k] = nm
  ·refine ⟨_, ?_, (k : Int), .inr ⟨k, rfl, hkl, Nat.le_refl _, hc, fun i hi h1 h2 => by omega⟩, .inr ⟨h0, rfl⟩⟩
   show (Z8 600).b _ _ ((Z8 600).L f) some = _
   have ee := (congrArg (eqP (nmE A[k])) hc).symm.trans (JW (nmE A[k]))
   simp only [eqP] at ee
   simp only [Z8]
   simp only [List.length_map, e2, h0, if_true, Int.toNat_natCast, zcx A k hkl, nm0, ee]
  ·obtain ⟨y, r1, z, r2, r3⟩ := ih (k + 1) f (by omega) (by omega)
   refine ⟨y, ?_, z, ?_, r3⟩
   ·show (Z8 600).b _ _ ((Z8 600).L f) some = _
    generalize (Z8 600).L f = Lf at r1 |-
    have ee := zaT hc
    simp only [eqP] at ee
    simp only [Z8]
    simp only [List.length_map, e2, h0, if_true, Int.toNat_natCast, zcx A k hkl, nm0, ee, zp (show k < 1000000 by omega)]
    exact r1
   ·rcases r2 with ⟨a, b⟩ | ⟨j, a, b, c, g, i⟩
    ·refine .inl ⟨a, fun j h h' => ?_⟩
     by_cases e : k = j
     ·subst e; exact hc
     ·exact b j h (by omega)
    ·refine .inr ⟨j, a, b, by omega, g, fun l hl h1 h2 => ?_⟩
     by_cases e : k = l
     ·subst e; exact hc
     ·exact i l hl (by omega) h2
theorem zx1 (A : List RT0) (nm : RT1) (hA : A.length <= 500) : ∃ z, zuZ 600 (A.map zB, nm) = some z /\ ixD A nm 0 z := by
 obtain ⟨y, h1, z, h2, h3⟩ := zga A nm hA A.length 0 600 (by omega) (by omega)
 replace h1 : (Z8 600).L 600 (A.map zB, 0, nm) = some y := h1
 refine ⟨z, ?_, h2⟩
 simp only [zuZ, FSpec.d, zkq, zvR, h1]
 rcases h3 with ⟨rfl, rfl⟩ | ⟨_, rfl⟩ <;> rfl
theorem ixD.rg {A : List RT0} {nm : RT1} {k : Nat} {z : Int} (h : ixD A nm k z) : -1 <= z /\ z < A.length := by
 rcases h with ⟨rfl, _⟩ | ⟨j, rfl, h, _⟩ <;> omega
def ic (L : List Int) : List AV := L.map fun x => AV.v (.int .i64 x)
theorem zeK (L : List Int) : (ic L).length = L.length := by simp [ic]
theorem JE (L : List Int) (k : Nat) (h : k < L.length) : (ic L)[k]? = some (AV.v (.int .i64 L[k])) := by simp [ic, h]
theorem zC (L : List Int) : (ic L).map dat0 = ic L := by simp only [ic, List.map_map]; rfl
theorem znG (L : List Int) (k : Nat) (y : Int) : splice (ic L) k [AV.v (.int .i64 y)] = ic (L.set k y) := by
 show (ic L).set k _ = _
 simp [ic, List.map_set]
theorem zzN (L : List Int) (x : Int) : ic L ++ [AV.v (.int .i64 x)] = ic (L ++ [x]) := by simp [ic]
theorem zxz (L : List Int) (x : Int) (hL : L.length <= 500) : ∀ (d k f : Nat), k + d = L.length -> d < f -> ∃ y, (Zw 600).L f (L.length, x, (k : Int), ic L) = some y /\ ((x ∈ L.drop k /\ y = .inl (true, ic L)) \/ (x ∉ L.drop k /\ y = .inr (ic L))) := by
 intro d
 induction d with
 | zero =>
  intro k f hk hf
  obtain ⟨f, rfl⟩ := pS hf
  refine ⟨_, ?_, .inr ⟨by rw [List.drop_eq_nil_of_le (by omega)]; simp, rfl⟩⟩
  show (Zw 600).b _ _ ((Zw 600).L f) some = _
  have e2 : decide ((k : Int) < ((L.length : Nat) : Int)) = false := dF (by omega)
  simp only [Zw]
  simp only [e2, zC]
 | succ d ih =>
  intro k f hk hf
  obtain ⟨f, rfl⟩ := pS hf
  have hkl : k < L.length := by omega
  have e2 : decide ((k : Int) < ((L.length : Nat) : Int)) = true := dT (by omega)
  have h0 : 0 <= (k : Int) := by omega
  have h1 : (k : Int) < (L.length : Int) := by omega
  have hd := List.drop_eq_getElem_cons hkl
  by_cases hc : L[k] = x
  ·refine ⟨_, ?_, .inl ⟨by rw [hd, hc]; exact List.mem_cons_self, rfl⟩⟩
   show (Zw 600).b _ _ ((Zw 600).L f) some = _
   have e3 : (L[k] == x) = true := by simp [hc]
   simp only [Zw]
   simp only [e2, h0, h1, decide_true, and_self, if_true, Nat.zero_add, Nat.mul_one, Int.toNat_natCast, JE L k hkl, e3, zC]
  ·obtain ⟨y, r1, r2⟩ := ih (k + 1) f (by omega) (by omega)
   refine ⟨y, ?_, ?_⟩
   ·show (Zw 600).b _ _ ((Zw 600).L f) some = _
    generalize (Zw 600).L f = Lf at r1 |-
    have e3 : (L[k] == x) = false := by simp [hc]
    simp only [Zw]
    simp only [e2, h0, h1, decide_true, and_self, if_true, Nat.zero_add, Nat.mul_one, Int.toNat_natCast, JE L k hkl, e3, zC, zp (show k < 1000000 by omega)]
    exact r1
   ·rw [hd, List.mem_cons]
    rcases r2 with ⟨a, b⟩ | ⟨a, b⟩
    ·exact .inl ⟨.inr a, b⟩
    ·exact .inr ⟨fun h => h.elim (fun e => hc e.symm) a, b⟩
theorem zCX (L : List Int) (x : Int) (hL : L.length <= 500) : ∃ b, zgB 600 (L.length, x, ic L) = some (b, ic L) /\ (b = true ↔ x ∈ L) := by
 obtain ⟨y, h1, h2⟩ := zxz L x hL L.length 0 600 (by omega) (by omega)
 replace h1 : (Zw 600).L 600 (L.length, x, 0, ic L) = some y := h1
 rw [List.drop_zero] at h2
 simp only [zgB, FSpec.d, zeI, zmF, zC, h1]
 rcases h2 with ⟨a, rfl⟩ | ⟨a, rfl⟩
 ·exact ⟨true, by simp only [zC], by simp [a]⟩
 ·exact ⟨false, by simp only [zC], by simp [a]⟩
def Rg (n : Nat) (L : List Int) : Prop := ∀ x ∈ L, -1 <= x /\ x < n
theorem Rg.snoc {n : Nat} {L : List Int} {x : Int} (h : Rg n L) (hx : -1 <= x /\ x < n) : Rg n (L ++ [x]) := fun y hy => by
 rcases List.mem_append.1 hy with h1 | h1
 ·exact h y h1
 ·rw [List.mem_singleton.1 h1]; exact hx
theorem Rg.set {n : Nat} {L : List Int} {x : Int} (h : Rg n L) (k : Nat) (hx : -1 <= x /\ x < n) : Rg n (L.set k x) := fun y hy => by
 rcases List.mem_or_eq_of_mem_set hy with h1 | h1
 ·exact h y h1
 ·rw [h1]; exact hx
theorem zoE {T : Int} {m e : Nat} {C : List (List RT7)} (hC : CG T m e C) (he : e <= 500) (hm : m <= 1000) (A : List RT0) (hA : A.length <= 500) : ∀ (d k f : Nat) (L : List Int), k + d = C.length -> d < f -> L.length = k -> Rg A.length L -> ∃ L' : List Int, (Zp 600).L f (k, A.map zB, (k : Int), zP C, ic L) = some (C.length, A.map zB, zP C, ic L') /\ L'.length = C.length /\ Rg A.length L' := by
 intro d
 induction d with
 | zero =>
  intro k f L hk hf hl hr
  obtain ⟨f, rfl⟩ := pS hf
  obtain rfl : k = C.length := by omega
  refine ⟨L, ?_, hl, hr⟩
  show (Zp 600).b _ _ ((Zp 600).L f) some = _
  have e2 : decide ((C.length : Int) < (C.length : Int)) = false := dF (by omega)
  simp only [Zp]
  simp only [zU, e2, zC]
 | succ d ih =>
  intro k f L hk hf hl hr
  obtain ⟨f, rfl⟩ := pS hf
  have hkl : k < C.length := by omega
  have hle := hC.le
  have e2 : decide ((k : Int) < (C.length : Int)) = true := dT (by omega)
  have h0 : 0 <= (k : Int) := by omega
  have hx := hC.xs k hkl
  have hla := zeC C[k] hx.ne (by have := hx.le; omega)
  obtain ⟨z, i1, i2⟩ := zx1 A (nmE (evV (C[k].getLast hx.ne))) hA
  replace i1 : zuZ 600 (A.map zB, zo2 (C[k].getLast hx.ne)) = some z := i1
  obtain ⟨b, j1, j2⟩ := zCX L z (by omega)
  rw [hl] at j1
  have hst : ∀ x : Int, -1 <= x /\ x < A.length -> ∃ L' : List Int, (Zp 600).L f (k + 1, A.map zB, ((k + 1 : Nat) : Int), zP C, ic (L ++ [x])) = some (C.length, A.map zB, zP C, ic L') /\ L'.length = C.length /\ Rg A.length L' := fun x hx => ih (k + 1) f (L ++ [x]) (by omega) (by omega) (by simp [hl]) (hr.snoc hx)
  have hlen : (ic L).length = k := by rw [zeK, hl]
  have b1 : (k * 1 <= k /\ (k + 1) * 8 <= zh) = True := by unfold zh; simp; omega
  have tk : ∀ x : Int, (ic L).take (k * 1) ++ [[AV.v (.int .i64 x)]].flatten = ic (L ++ [x]) := fun x => by
   rw [Nat.mul_one, <- hlen, List.take_length]
   exact zzN L x
  cases b with
  | true =>
   obtain ⟨L', r1, r2⟩ := hst (-1) (by omega)
   refine ⟨L', ?_, r2⟩
   show (Zp 600).b _ _ ((Zp 600).L f) some = _
   generalize (Zp 600).L f = Lf at r1 |-
   simp only [Zp]
   simp only [zU, e2, h0, if_true, Int.toNat_natCast, Zc C k hkl, rd6, hla, i1, zC, j1, hlen, List.length_cons, List.length_nil, Nat.zero_add, b1, tk, zp (show k < 1000000 by omega)]
   exact r1
  | false =>
   obtain ⟨L', r1, r2⟩ := hst z i2.rg
   refine ⟨L', ?_, r2⟩
   show (Zp 600).b _ _ ((Zp 600).L f) some = _
   generalize (Zp 600).L f = Lf at r1 |-
   simp only [Zp]
   simp only [zU, e2, h0, if_true, Int.toNat_natCast, Zc C k hkl, rd6, hla, i1, zC, j1, hlen, List.length_cons, List.length_nil, Nat.zero_add, b1, tk, zp (show k < 1000000 by omega)]
   exact r1
theorem zjL {T : Int} {m e : Nat} {C : List (List RT7)} (hC : CG T m e C) (he : e <= 500) (hm : m <= 1000) (A : List RT0) (hA : A.length <= 500) (hpk : ∀ a ∈ A, za7 a) (i : Nat) (hi : i < C.length) : ∀ (d k f : Nat) (L : List Int), k + d = A.length -> d < f -> L.length = C.length -> Rg A.length L -> ∃ L' : List Int, (zO 600).L f (A.map zB, C.length, (i : Int), (k : Int), zP C, ic L) = some (A.map zB, C.length, (i : Int), zP C, ic L') /\ L'.length = C.length /\ Rg A.length L' := by
 intro d
 induction d with
 | zero =>
  intro k f L hk hf hl hr
  obtain ⟨f, rfl⟩ := pS hf
  refine ⟨L, ?_, hl, hr⟩
  show (zO 600).b _ _ ((zO 600).L f) some = _
  have e2 : decide ((k : Int) < (A.length : Int)) = false := dF (by omega)
  simp only [zO]
  simp only [List.length_map, e2, zC]
 | succ d ih =>
  intro k f L hk hf hl hr
  obtain ⟨f, rfl⟩ := pS hf
  have hkl : k < A.length := by omega
  have hle := hC.le
  have e2 : decide ((k : Int) < (A.length : Int)) = true := dT (by omega)
  have h0 : 0 <= (k : Int) := by omega
  have hi0 : 0 <= (i : Int) := by omega
  have hi1 : (i : Int) < (C.length : Int) := by omega
  have hiL : i < L.length := by omega
  have hx := hC.xs i hi
  have hla := zeC C[i] hx.ne (by have := hx.le; omega)
  by_cases hneg : L[i] < 0
  case neg =>
   refine ⟨L, ?_, hl, hr⟩
   show (zO 600).b _ _ ((zO 600).L f) some = _
   have e3 : decide (L[i] < 0) = false := dF (by omega)
   simp only [zO]
   simp only [List.length_map, e2, hi0, hi1, and_self, if_true, Nat.zero_add, Nat.mul_one, Int.toNat_natCast, JE L i hiL, e3, zC]
  have e3 : decide (L[i] < 0) = true := dT (by omega)
  obtain ⟨b, j1, j2⟩ := zCX L (k : Int) (by omega)
  rw [hl] at j1
  cases b with
  | true =>
   obtain ⟨L', r1, r2⟩ := ih (k + 1) f L (by omega) (by omega) hl hr
   refine ⟨L', ?_, r2⟩
   show (zO 600).b _ _ ((zO 600).L f) some = _
   generalize (zO 600).L f = Lf at r1 |-
   simp only [zO]
   simp only [List.length_map, e2, hi0, hi1, and_self, if_true, Nat.zero_add, Nat.mul_one, Int.toNat_natCast, JE L i hiL, e3, zC, j1, Bool.not_true, zp (show k < 1000000 by omega)]
   exact r1
  | false =>
   obtain ⟨P, hP1, hP⟩ := hx.last.ev.pk
   obtain ⟨Q, hQ1, hQ⟩ := hpk A[k] (List.getElem_mem _)
   obtain ⟨b2, q1, q2⟩ := zCu P Q (by omega) (by omega)
   have q3 : zqQ 600 ((C[i].getLast hx.ne).2.2.2.2.2.2.2.2.2.2.2.2.2.1, Q.map zw) = some b2 := by
    rw [<- hP] at q1; exact q1
   cases b2 with
   | false =>
    obtain ⟨L', r1, r2⟩ := ih (k + 1) f L (by omega) (by omega) hl hr
    refine ⟨L', ?_, r2⟩
    show (zO 600).b _ _ ((zO 600).L f) some = _
    generalize (zO 600).L f = Lf at r1 |-
    simp only [zO]
    simp only [List.length_map, e2, h0, hi0, hi1, and_self, if_true, Nat.zero_add, Nat.mul_one, Int.toNat_natCast, JE L i hiL, e3, zC, j1, Bool.not_false, Zc C i hi, rd6, hla, zcx A k hkl, pk0, zBU, hQ, q3, zp (show k < 1000000 by omega)]
    exact r1
   | true =>
    obtain ⟨L', r1, r2⟩ := ih (k + 1) f (L.set i (k : Int)) (by omega) (by omega) (by simpa using hl) (hr.set i (by omega))
    refine ⟨L', ?_, r2⟩
    show (zO 600).b _ _ ((zO 600).L f) some = _
    generalize (zO 600).L f = Lf at r1 |-
    have b1 : i + 1 <= (ic L).length := by rw [zeK]; omega
    simp only [zO]
    simp only [List.length_map, e2, h0, hi0, hi1, and_self, if_true, Nat.zero_add, Nat.mul_one, Int.toNat_natCast, JE L i hiL, e3, zC, j1, Bool.not_false, Zc C i hi, rd6, hla, zcx A k hkl, pk0, zBU, hQ, q3, b1, znG, zp (show k < 1000000 by omega)]
    exact r1
theorem zkf {T : Int} {m e : Nat} {C : List (List RT7)} (hC : CG T m e C) (he : e <= 500) (hm : m <= 1000) (A : List RT0) (hA : A.length <= 500) (hpk : ∀ a ∈ A, za7 a) : ∀ (d k f : Nat) (L : List Int), k + d = C.length -> d < f -> L.length = C.length -> Rg A.length L -> ∃ L' : List Int, (Zr 600).L f (A.map zB, C.length, (k : Int), zP C, ic L) = some (C.length, ic L') /\ L'.length = C.length /\ Rg A.length L' := by
 intro d
 induction d with
 | zero =>
  intro k f L hk hf hl hr
  obtain ⟨f, rfl⟩ := pS hf
  refine ⟨L, ?_, hl, hr⟩
  show (Zr 600).b _ _ ((Zr 600).L f) some = _
  have e2 : decide ((k : Int) < (C.length : Int)) = false := dF (by omega)
  simp only [Zr]
  simp only [zU, e2, zC]
 | succ d ih =>
  intro k f L hk hf hl hr
  obtain ⟨f, rfl⟩ := pS hf
  have hkl : k < C.length := by omega
  have hle := hC.le
  have e2 : decide ((k : Int) < (C.length : Int)) = true := dT (by omega)
  obtain ⟨L1, a1, a2, a3⟩ := zjL hC he hm A hA hpk k hkl A.length 0 600 L (by omega) (by omega) hl hr
  replace a1 : (zO 600).L 600 (A.map zB, C.length, (k : Int), 0, zP C, ic L) = _ := a1
  obtain ⟨L', r1, r2⟩ := ih (k + 1) f L1 (by omega) (by omega) a2 a3
  refine ⟨L', ?_, r2⟩
  show (Zr 600).b _ _ ((Zr 600).L f) some = _
  generalize (Zr 600).L f = Lf at r1 |-
  simp only [Zr]
  simp only [zU, e2, zC, zjg, a1, zp (show k < 1000000 by omega)]
  exact r1
theorem zt7 {T : Int} {m e : Nat} {C : List (List RT7)} (hC : CG T m e C) (he : e <= 500) (hm : m <= 1000) (A : List RT0) (hA : A.length <= 500) (hpk : ∀ a ∈ A, za7 a) : ∃ L : List Int, znj 600 (zP C, A.map zB) = some (C.length, ic L) /\ L.length = C.length /\ Rg A.length L := by
 have hle := hC.le
 obtain ⟨L1, a1, a2, a3⟩ := zoE hC he hm A hA C.length 0 600 [] (by omega) (by omega) rfl (fun x h => by cases h)
 replace a1 : (Zp 600).L 600 (0, A.map zB, 0, zP C, []) = _ := a1
 obtain ⟨L2, b1, b2, b3⟩ := zkf hC he hm A hA hpk C.length 0 600 L1 (by omega) (by omega) a2 a3
 replace b1 : (Zr 600).L 600 (A.map zB, C.length, 0, zP C, ic L1) = _ := b1
 refine ⟨L2, ?_, b2, b3⟩
 simp only [znj, FSpec.d, zam, zod, zjq, a1, zC, b1]
end Go.Proofs.YthdgnfcbehcplaaDoor
end
section
namespace Go.Proofs.YthdgnfcbehcplaaDoor
theorem CG.add {T : Int} {m e : Nat} {C : List (List RT7)} (h : CG T m e C) (hm : 1 <= m) {v : RT7} (hv : VG T (C.length + 1) C.length v) (h1 : kdV v = 1) : CG T m (e + 1) (C ++ [[v]]) := by
 refine ⟨fun k hk => ?_, by have := h.le; simp; omega⟩
 simp at hk
 rw [List.length_append, List.length_singleton]
 by_cases hl : k < C.length
 ·rw [List.getElem_append_left hl]
  exact (h.xs k hl).mono (Int.le_refl _) (by omega) (Nat.le_refl _)
 ·obtain rfl : k = C.length := by omega
  rw [List.getElem_append_right (by omega)]
  simpa using XG.one hm hv h1
def zab (t : Int) (e : RT0) : RT7 := (1, t, nob, 0, e)
def zlu (t : Int) (e : RT0) : RT7 := (2, t, nob, 0, e)
theorem zpP {T t : Int} {n i : Nat} {e : RT0} (h0 : 0 <= t) (he : EvG e) : VG t n i (zab t e) :=
 ⟨.inl rfl, h0, Int.le_refl _, fun _ => rfl, fun h => absurd (.inl rfl) h, fun _ => rfl, fun h => (by cases h), he⟩
theorem zAf {T t : Int} {n i : Nat} {e : RT0} (h0 : 0 <= t) (he : EvG e) : VG t n i (zlu t e) :=
 ⟨.inr (.inl rfl), h0, Int.le_refl _, fun _ => rfl, fun h => absurd (.inr rfl) h, fun _ => rfl, fun h => (by cases h), he⟩
theorem zAj {t : Int} {u : RT7} {e : RT0} (ht : atV u <= t) (ho : Z7 (kdV u) = true) : Stp u (zab t e) := ⟨ht, ho, fun h => by cases h⟩
theorem zzZ {t : Int} {u : RT7} (ht : atV u <= t) (ho : Z7 (kdV u) = true) (h2 : kdV u ≠ 2) : Stp u (zlu t (evV u)) := ⟨ht, by
 show (kdV u == 1 || kdV u == 6) = true
 unfold Z7 at ho
 have : (kdV u == 2) = false := by simpa using h2
 rw [this, Bool.false_or] at ho
 exact ho, fun _ => rfl⟩
open Classical in
noncomputable def Jb (A : List RT0) (t : Int) (u : RT7) (k : Int) : Option RT7 :=
 if Z7 (kdV u) = true then
  if h : 0 <= k /\ k < A.length then
   if JZ (kdV u) = true /\ evV u = A[k.toNat] then none else some (zab t A[k.toNat])
  else if kdV u = 2 then none else some (zlu t (evV u))
 else none
theorem zwq {A : List RT0} (hA : ∀ a ∈ A, EvG a) {T t : Int} {n i m : Nat} {x : List RT7} (hx : XG T n i m x) (hT : T <= t) {k : Int} {v : RT7} (h : Jb A t (x.getLast hx.ne) k = some v) : VG t n i v /\ Stp (x.getLast hx.ne) v := by
 have hL := hx.last
 have h0 : 0 <= t := Int.le_trans hL.at0 (Int.le_trans hL.atT hT)
 have h1 : atV (x.getLast hx.ne) <= t := Int.le_trans hL.atT hT
 unfold Jb at h
 split at h
 ·rename_i ho
  split at h
  ·split at h
   ·cases h
   ·obtain rfl := Option.some.inj h
    exact ⟨zpP (T := T) h0 (hA _ (List.getElem_mem _)), zAj h1 ho⟩
  ·split at h
   ·cases h
   ·rename_i h2
    obtain rfl := Option.some.inj h
    exact ⟨zAf (T := T) h0 hL.ev, zzZ h1 ho h2⟩
 ·cases h
theorem zyM (A : List RT0) (hA : ∀ a ∈ A, EvG a) (t : Int) (u : RT7) (hu : EvG (evV u)) (k i : Int) (hk : -1 <= k /\ k < A.length) (ch : List (List AV)) (n N : Nat) (X Y : List (List AV)) (cs ci : List AV) (hcs : cs.map datF = cs) (hci : ci.map dat0 = ci) (j M : Nat) :
  ∃ s v, zdn 600 (ch, A.map zB, t, n, i, (kdV u == 2), k, decide (k >= 0), X, Y, N, u, zlu t (evV u), cs, ci, j, M) = some (ch, A.map zB, t, n, i, s, X, Y, N, u, v, cs, ci, j, M) /\ (Z7 (kdV u) = true -> Jb A t u k = if s = true then none else some v) := by
 have hu' : ∀ y, (jw 600).b (ch, A.map zB, t, n, i, (kdV u == 2), k, decide (k >= 0), X, Y, N, u, zlu t (evV u), cs, ci, j, M) _ ((jw 600).L 599) some = y -> zdn 600 (ch, A.map zB, t, n, i, (kdV u == 2), k, decide (k >= 0), X, Y, N, u, zlu t (evV u), cs, ci, j, M) = y := fun y h => h
 by_cases hk0 : 0 <= k
 ·obtain ⟨j', rfl⟩ : ∃ j' : Nat, k = (j' : Int) := ⟨k.toNat, by omega⟩
  have hj : j' < A.length := by omega
  have e1 : decide ((j' : Int) >= 0) = true := dT (by omega)
  have hs := zxC 600 u
  have hnv : ∀ s v, (s = true ↔ (JZ (kdV u) = true /\ evV u = A[j'])) -> v = zab t A[j'] -> Z7 (kdV u) = true -> Jb A t u (j' : Int) = if s = true then none else some v := fun s v h1 h2 ho => by
   unfold Jb
   rw [if_pos ho, dif_pos ⟨hk0, by omega⟩]
   simp only [Int.toNat_natCast, h2]
   by_cases c : s = true
   ·rw [if_pos c, if_pos (h1.1 c)]
   ·rw [if_neg c, if_neg (fun h => c (h1.2 h))]
  cases hsh : JZ (kdV u) with
  | false =>
   rw [hsh] at hs
   refine ⟨false, zab t A[j'], hu' _ ?_, hnv _ _ (by simp [hsh]) rfl⟩
   simp only [jw]
   simp only [e1, hk0, if_true, Int.toNat_natCast, zcx A j' hj, ZF, hs, hcs, hci]
   rfl
  | true =>
   rw [hsh] at hs
   obtain ⟨b, q1, q2⟩ := zfu (evV u) A[j'] hu.pk (hA _ (List.getElem_mem _)).pk
   replace q1 : zcM 600 (zy u, A[j']) = some b := q1
   refine ⟨b, zab t A[j'], hu' _ ?_, hnv _ _ (by rw [q2]; simp [hsh]) rfl⟩
   simp only [jw]
   simp only [e1, hk0, if_true, Int.toNat_natCast, zcx A j' hj, ZF, hs, hcs, hci, q1]
   rfl
 ·have e1 : decide (k >= 0) = false := dF (by omega)
  refine ⟨(kdV u == 2), zlu t (evV u), hu' _ ?_, ?_⟩
  ·simp only [jw]
   simp only [e1, hcs, hci]
  ·intro ho
   unfold Jb
   rw [if_pos ho, dif_neg (fun h => hk0 h.1)]
   by_cases c : kdV u = 2
   ·rw [if_pos c, if_pos (by simpa using c)]
   ·rw [if_neg c, if_neg (by simpa using c)]
theorem zkX {T t : Int} {m e : Nat} {C : List (List RT7)} (hC : CG T m e C) (he : e <= 500) (hm : m < 100) (hT : T <= t) (A : List RT0) (hA : ∀ a ∈ A, EvG a) (L : List Int) (hL : L.length = C.length) (hr : Rg A.length L) (X : List (List AV)) : ∀ (d k f : Nat) (ch : List (List AV)) (D : List (List RT7)) (cs : List AV) (j : Nat), k + d = C.length -> d < f -> j <= k -> ch.length <= k -> D.length = C.length -> (∀ i (h : i < D.length) (h' : i < C.length), k <= i -> D[i] = C[i]) -> FC D j cs -> CG t (m + 1) e D ->
  ∃ (ch' : List (List AV)) (D' : List (List RT7)) (cs' : List AV) (j' : Nat), (Zt 600).L f (ch, A.map zB, t, C.length, (k : Int), zP C, X, C.length, cs, ic L, j, C.length) = some (.inr (ch', A.map zB, t, C.length, X, C.length, cs', ic L, j', C.length)) /\ ch'.length <= C.length /\ D'.length = C.length /\ FC D' j' cs' /\ CG t (m + 1) e D' := by
 intro d
 induction d with
 | zero =>
  intro k f ch D cs j hk hf hj hch hD hDC hF hG
  obtain ⟨f, rfl⟩ := pS hf
  refine ⟨ch, D, cs, j, ?_, by omega, hD, hF, hG⟩
  show (Zt 600).b _ _ ((Zt 600).L f) some = _
  have e2 : decide ((k : Int) < ((C.length : Nat) : Int)) = false := dF (by omega)
  simp only [Zt]
  simp only [e2, zC, hF.dF]
 | succ d ih =>
  intro k f ch D cs j hk hf hj hch hD hDC hF hG
  obtain ⟨f, rfl⟩ := pS hf
  have hkl : k < C.length := by omega
  have hkd : k < D.length := by omega
  have hle := hC.le
  have e2 : decide ((k : Int) < ((C.length : Nat) : Int)) = true := dT (by omega)
  have h0 : 0 <= (k : Int) := by omega
  have hk1 : (k : Int) < (C.length : Int) := by omega
  have hkL : k < L.length := by omega
  have hx := hC.xs k hkl
  have hxl := hx.le
  have hla := zeC C[k] hx.ne (by omega)
  obtain ⟨u, hu⟩ : ∃ u, u = C[k].getLast hx.ne := ⟨_, rfl⟩
  rw [<- hu] at hla
  have hLast := hx.last
  rw [<- hu] at hLast
  have hop := zmI 600 u
  obtain ⟨s, v, a1, a2⟩ := zyM A hA t u hLast.ev L[k] (k : Int) (hr _ (List.getElem_mem _)) ch C.length C.length (zP C) X cs (ic L) hF.dF (zC L) j C.length
  have n1 := zp (show k < 1000000 by omega)
  by_cases hadd : Z7 (kdV u) = true /\ s = false
  ·obtain ⟨ho, rfl⟩ := hadd
   rw [ho] at hop
   have hnv := a2 ho
   simp only [Bool.false_eq_true, if_false] at hnv
   rw [hu] at hnv
   obtain ⟨g1, g2⟩ := zwq hA hx hT hnv
   have hDk : D[k] = C[k] := hDC k hkd hkl (Nat.le_refl _)
   have hG' : CG t (m + 1) e (D.set k (D[k] ++ [v])) := by
    refine ⟨fun i hi => ?_, by simpa using hG.le⟩
    simp at hi
    rw [List.length_set, List.getElem_set]
    split
    ·rename_i e'; subst e'
     rw [hDk, hD]
     exact hx.snoc hT g1 g2
    ·exact hG.xs i hi
   obtain ⟨tk, q3, _, q4⟩ := hF.2 k hkd
   rw [q4 hj, hDk] at q3
   have hF' := (hF.to hj).set hkd (D[k] ++ [v]) (q := 6592) (by unfold TOB; omega)
   obtain ⟨ch', D', cs', j', r1, r2⟩ := ih (k + 1) f (ch ++ [[AV.v (.int .i64 (k : Int))]]) _ _ (k + 1) (by omega) (by omega) (by omega) (by simp; omega) (by simpa using hD) (fun i h h' hi => by
    rw [List.getElem_set_ne (by omega)]
    exact hDC i (by simpa using h) h' (by omega)) hF' hG'
   refine ⟨ch', D', cs', j', ?_, r2⟩
   show (Zt 600).b _ _ ((Zt 600).L f) some = _
   generalize (Zt 600).L f = Lf at r1 |-
   have a1' : zdn 600 (ch, A.map zB, t, C.length, (k : Int), (u.1 == 2), L[k], decide (L[k] >= 0), zP C, X, C.length, u, (2, t, (⟨#[]⟩ : ByteArray), 0, u.2.2.2.2), cs, ic L, j, C.length) = _ := a1
   have hr' : (C[k].map zM) ++ [zM v] = (D[k] ++ [v]).map zM := by rw [hDk]; simp
   have b1 : ((C[k].map zM).length + [zM v].length) * 288 <= zh := by unfold zh; simp; omega
   have b2 : k + 1 <= cs.length := by rw [hF.1]; omega
   have b3 : (ch.length + [[AV.v (.int .i64 (k : Int))]].length) * 8 <= zh := by unfold zh; simp; omega
   have sp : (splice cs k [AV.list 29 ((D[k] ++ [v]).map zM) (some 6592)])[k]? = some (AV.list 29 ((D[k] ++ [v]).map zM) (some 6592)) := by
    show (cs.set k _)[k]? = _
    rw [List.getElem?_set_self (by omega)]
   have l1 : ju 29 (AV.list 29 ((D[k] ++ [v]).map zM) (some 6592)) = some ((D[k] ++ [v]).map zM) := by simp [ju]
   have c1 : decide ((((D[k] ++ [v]).map zM).length : Int) > 100) = false := by rw [decide_eq_false_iff_not, hDk]; simp; omega
   simp only [Zt]
   simp only [e2, h0, hk1, decide_true, and_self, if_true, Int.toNat_natCast, Zc C k hkl, rd6, hla, Nat.zero_add, Nat.mul_one, Nat.add_zero, JE L k hkL, hF.dF, zC, a1', hop, Bool.not_false, q3, hj, hkl, hr', b2, b3, sp, l1, c1, n1]
   rw [if_pos b1]
   exact r1
  ·obtain ⟨ch', D', cs', j', r1, r2⟩ := ih (k + 1) f ch D cs j (by omega) (by omega) (by omega) (by omega) hD (fun i h h' hi => hDC i h h' (by omega)) hF hG
   refine ⟨ch', D', cs', j', ?_, r2⟩
   show (Zt 600).b _ _ ((Zt 600).L f) some = _
   generalize (Zt 600).L f = Lf at r1 |-
   have a1' : zdn 600 (ch, A.map zB, t, C.length, (k : Int), (u.1 == 2), L[k], decide (L[k] >= 0), zP C, X, C.length, u, (2, t, (⟨#[]⟩ : ByteArray), 0, u.2.2.2.2), cs, ic L, j, C.length) = _ := a1
   simp only [Zt]
   simp only [e2, h0, hk1, decide_true, and_self, if_true, Int.toNat_natCast, Zc C k hkl, rd6, hla, Nat.zero_add, Nat.mul_one, Nat.add_zero, JE L k hkL, hF.dF, zC, a1', hop, n1]
   cases ho : Z7 (kdV u) with
   | false => exact r1
   | true =>
    cases s with
    | true => exact r1
    | false => exact absurd ⟨ho, rfl⟩ hadd
end Go.Proofs.YthdgnfcbehcplaaDoor
end
section
namespace Go.Proofs.YthdgnfcbehcplaaDoor
theorem ziz (D : List (List RT7)) (v : RT7) : ((zah D).take (D.length * 1) ++ [AV.list 29 [zM v] none]).map dat0 = zah (D ++ [[v]]) := by
 rw [Nat.mul_one, List.take_of_length_le (by rw [zaM]; exact Nat.le_refl _), List.map_append, jO, <- zu0]
 rfl
theorem zjV {t : Int} (h0 : 0 <= t) (A : List RT0) (hA : ∀ a ∈ A, EvG a) (hAl : A.length <= 100) (L : List Int) (hL : L.length <= 500) (X : List (List AV)) {m : Nat} (hm : 1 <= m) : ∀ (d k f e : Nat) (ch : List (List AV)) (D : List (List RT7)), k + d = A.length -> d < f -> e + d <= 500 -> ch.length <= e -> CG t m e D ->
  ∃ (ch' : List (List AV)) (D' : List (List RT7)), (Zs 600).L f (ch, A.map zB, t, L.length, (k : Int), X, D.length, ic L, zah D) = some (ch', X, D'.length, zah D') /\ CG t m (e + d) D' := by
 intro d
 induction d with
 | zero =>
  intro k f e ch D hk hf he hch hG
  obtain ⟨f, rfl⟩ := pS hf
  refine ⟨ch, D, ?_, hG⟩
  show (Zs 600).b _ _ ((Zs 600).L f) some = _
  have e2 : decide ((k : Int) < (A.length : Int)) = false := dF (by omega)
  simp only [Zs]
  simp only [List.length_map, e2, jO]
 | succ d ih =>
  intro k f e ch D hk hf he hch hG
  obtain ⟨f, rfl⟩ := pS hf
  have hkl : k < A.length := by omega
  have hDl := hG.le
  have e2 : decide ((k : Int) < (A.length : Int)) = true := dT (by omega)
  have h0 : 0 <= (k : Int) := by omega
  have n1 := zp (show k < 1000000 by omega)
  obtain ⟨b, j1, j2⟩ := zCX L (k : Int) hL
  cases b with
  | true =>
   obtain ⟨ch', D', r1, r2⟩ := ih (k + 1) f e ch D (by omega) (by omega) (by omega) hch hG
   refine ⟨ch', D', ?_, r2.mono (Int.le_refl _) (Nat.le_refl _) (by omega)⟩
   show (Zs 600).b _ _ ((Zs 600).L f) some = _
   generalize (Zs 600).L f = Lf at r1 |-
   simp only [Zs]
   simp only [List.length_map, e2, jO, zC, j1, Bool.not_true, n1]
   exact r1
  | false =>
   have hv : VG t (D.length + 1) D.length (zab t A[k]) := zpP (T := t) (by assumption) (hA _ (List.getElem_mem _))
   obtain ⟨ch', D', r1, r2⟩ := ih (k + 1) f (e + 1) (ch ++ [[AV.v (.int .i64 ((D.length : Nat) : Int))]]) (D ++ [[zab t A[k]]]) (by omega) (by omega) (by omega) (by simp; omega) (hG.add hm hv rfl)
   refine ⟨ch', D', ?_, r2.mono (Int.le_refl _) (Nat.le_refl _) (by omega)⟩
   have hl1 : (D ++ [[zab t A[k]]]).length = D.length + 1 := by simp
   rw [hl1, <- ziz] at r1
   show (Zs 600).b _ _ ((Zs 600).L f) some = _
   generalize (Zs 600).L f = Lf at r1 |-
   have b1 : (ch.length + 1) * 8 <= zh := by unfold zh; omega
   have b2 : (D.length * 1 <= (zah D).length /\ (D.length + 1) * 24 <= zh) := by rw [zaM]; unfold zh; omega
   simp only [Zs]
   simp only [List.length_map, e2, jO, zC, j1, Bool.not_false, n1, h0, if_true, Int.toNat_natCast, zcx A k hkl, ZF, List.length_cons, List.length_nil, Nat.zero_add]
   rw [if_pos b1]
   exact (if_pos b2).trans r1
theorem znn {T t : Int} {m e : Nat} {C : List (List RT7)} (hC : CG T m e C) {A : List RT0} {M : Nat} (hM : M <= 5) (hA : Evs 0 M A) (he : e + M <= 500) (hm : m < 100) (hT : T <= t) (ht0 : 0 <= t) (ht : t <= 18014398509481984) : ∃ C' l, zsI 600 (zP C, A.map zB, t) = some (zP C', l, 0) /\ CG t (m + 1) (e + M) C' := by
 have hle := hC.le
 have hAl := zcT hA
 have hg : ∀ a ∈ A, EvG a := fun a ha => (hA.evn hM a ha).g
 have hV := zpu (by omega) (by omega) (by omega) hC
 have hE := zcf hM hA
 have hL := zi5 hT (by omega) (by omega) hC
 obtain ⟨cs, q1, q2⟩ := zv2 (C := C) (by omega) (hC.small (by omega))
 obtain ⟨L, f1, f2, f3⟩ := zt7 hC (by omega) (by omega) A (by omega) (fun a ha => (hg a ha).pk)
 obtain ⟨ch, D, cs', j, p1, p2, p3, p4, p5⟩ := zkX hC (by omega) hm hT A hg L f2 f3 [] C.length 0 600 [] C cs 0 (by omega) (by omega) (by omega) (by simp) rfl (fun i h h' _ => rfl) q2 (hC.mono hT (by omega) (Nat.le_refl _))
 obtain ⟨ch2, D2, s1, s2⟩ := zjV ht0 A hg (by omega) L (by omega) [] (m := m + 1) (by omega) A.length 0 600 (e + (M - A.length)) ch D (by omega) (by omega) (by omega) (by omega) (p5.mono (Int.le_refl _) (Nat.le_refl _) (by omega))
 replace p1 : (Zt 600).L 600 ([], A.map zB, t, C.length, 0, zP C, [], C.length, cs, ic L, 0, C.length) = _ := p1
 replace s1 : (Zs 600).L 600 (ch, A.map zB, t, L.length, 0, [], D.length, ic L, zah D) = _ := s1
 rw [f2, p3] at s1
 have s3 : CG t (m + 1) (e + M) D2 := s2.mono (Int.le_refl _) (Nat.le_refl _) (by omega)
 have s4 := s3.le
 have n5 : decide (t < 0) = false := dF (by omega)
 have n6 : decide (t > 18014398509481984) = false := dF (by omega)
 have n7 : decide (((D2.length : Nat) : Int) > 500) = false := dF (by omega)
 have n8 : D2.length * 1 <= (zah D2).length := by rw [zaM]; omega
 refine ⟨D2, ch2, ?_, s3⟩
 simp only [zsI, FSpec.d, zd0, hV, hE, hL, Bool.not_true, n5, n6, q1, q2.dJ, q2.dF, f1, zC, zlF, p1, znK, p4.d0, s1, n7]
 rw [if_pos n8, zen]
theorem ze8 {xs : List Int} {p : Int} (D : Sc xs p) : ∃ b p', zhU 600 ([[AV.v (.string (⟨#[97, 110, 110]⟩ : ByteArray))], [AV.v (.string (⟨#[98, 111, 98]⟩ : ByteArray))]], zA xs, p) = some (b, zA xs, p') /\ Per b /\ Sc xs p' := by
 obtain ⟨v, p1, h1, m1, D1⟩ := zdR 600 (n := 2) (by omega) D
 replace h1 : zcD 600 ((([[AV.v (.string (⟨#[97, 110, 110]⟩ : ByteArray))], [AV.v (.string (⟨#[98, 111, 98]⟩ : ByteArray))]] : List (List AV)).length : Int), zA xs, p) = some (v, zA xs, p1) := h1
 have h0 : 0 <= v := m1.1
 rcases (show v = 0 \/ v = 1 by omega) with rfl | rfl
 ·refine ⟨ann, p1, ?_, .inl rfl, D1⟩
  simp only [zhU, FSpec.d, zxy, h1]
  rfl
 ·refine ⟨bob, p1, ?_, .inr rfl, D1⟩
  simp only [zhU, FSpec.d, zxy, h1]
  rfl
theorem zkw {xs : List Int} (n : Nat) (hn : n <= 50) (X : List (List AV)) : ∀ (d i f : Nat) (p now : Int) (C : List (List RT7)), i + d = n -> d < f -> Sc xs p -> 100 <= now -> now <= 100 + 50 * i -> CG now i (4 * i) C ->
  ∃ (now' p' : Int) (C' : List (List RT7)), (zaC 600).L f ((n : Int), now, (i : Int), zA xs, p, X, zP C) = some (now', zA xs, p', X, zP C') /\ Sc xs p' /\ 100 <= now' /\ now' <= 100 + 50 * n /\ CG now' n (4 * n) C' := by
 intro d
 induction d with
 | zero =>
  intro i f p now C hi hf D h1 h2 hC
  obtain ⟨f, rfl⟩ := pS hf
  obtain rfl : i = n := by omega
  refine ⟨now, p, C, ?_, D, h1, h2, hC⟩
  show (zaC 600).b _ _ ((zaC 600).L f) some = _
  have e2 : decide ((i : Int) < (i : Int)) = false := dF (by omega)
  simp only [zaC]
  simp only [e2]
 | succ d ih =>
  intro i f p now C hi hf D h1 h2 hC
  obtain ⟨f, rfl⟩ := pS hf
  have hle := hC.le
  have e2 : decide ((i : Int) < (n : Int)) = true := dT (by omega)
  have n1 := zp (show i < 1000000 by omega)
  obtain ⟨a1, p1, g1, m1, D1⟩ := zdR 600 (n := 50) (by omega) D
  obtain ⟨mx, hmx⟩ : ∃ mx : Int, mx = if (C.length : Int) > 1 then (C.length : Int) else 1 := ⟨_, rfl⟩
  have hmx' : 1 <= mx /\ mx <= 1000 := by rw [hmx]; split <;> omega
  obtain ⟨a2, p2, g2, m2, D2⟩ := zdR 600 (n := mx) (by omega) D1
  obtain ⟨a3, p3, g3, m3, D3⟩ := zdR 600 (n := 8) (by omega) D2
  have i1 : i64 (now + a1) = now + a1 := Zz (by omega)
  obtain ⟨id, hid⟩ : ∃ id : Nat, a2 = (id : Int) := ⟨a2.toNat, by omega⟩
  subst hid
  have hgo : ∀ (q : Int) (C' : List (List RT7)), Sc xs q -> CG (now + a1) (i + 1) (4 * (i + 1)) C' -> ∃ (now' p' : Int) (C'' : List (List RT7)), (zaC 600).L f ((n : Int), now + a1, ((i + 1 : Nat) : Int), zA xs, q, X, zP C') = some (now', zA xs, p', X, zP C'') /\ Sc xs p' /\ 100 <= now' /\ now' <= 100 + 50 * n /\ CG now' n (4 * n) C'' := fun q C' hq hc => ih (i + 1) f q (now + a1) C' (by omega) (by omega) hq (by omega) (by omega) hc
  have hkeep : CG (now + a1) (i + 1) (4 * (i + 1)) C := hC.mono (by omega) (by omega) (by omega)
  have hres : ∀ y, (zaC 600).b ((n : Int), now, (i : Int), zA xs, p, X, zP C) _ ((zaC 600).L f) some = y -> (zaC 600).L (f + 1) ((n : Int), now, (i : Int), zA xs, p, X, zP C) = y := fun y h => h
  have key : ∃ (q : Int) (C' : List (List RT7)), (zaC 600).b ((n : Int), now, (i : Int), zA xs, p, X, zP C) _ ((zaC 600).L f) some = (zaC 600).L f ((n : Int), now + a1, ((i + 1 : Nat) : Int), zA xs, q, X, zP C') /\ Sc xs q /\ CG (now + a1) (i + 1) (4 * (i + 1)) C' := by
   obtain ⟨Lf, hLf⟩ : ∃ Lf, Lf = (zaC 600).L f := ⟨_, rfl⟩
   rw [<- hLf]
   simp only [zaC]
   simp only [e2, g1, zU, <- hmx, g2, g3, i1, n1]
   have he0 : 4 * i <= 500 := by omega
   rcases (show a3 = 0 \/ a3 = 1 \/ a3 = 2 \/ a3 = 3 \/ 4 <= a3 by omega) with rfl | rfl | rfl | rfl | h4
   ·have c0 : ((0 : Int) == 0) = true := by decide
    simp only [c0]
    obtain ⟨A, p4, g4, l4, v4, D4⟩ := zl1 4 (by omega) D3
    replace g4 : zwF 600 (4, zA xs, p3) = some (A.map zB, zA xs, p4) := g4
    simp only [g4, List.length_map]
    by_cases hA : 0 < A.length
    ·have c1 : decide ((A.length : Int) > 0) = true := dT (by omega)
     obtain ⟨b, p5, g5, hb, D5⟩ := ze8 D4
     obtain ⟨a6, p6, g6, m6, D6⟩ := zdR 600 (n := (A.length : Int)) (by omega) D5
     obtain ⟨z, rfl⟩ : ∃ z : Nat, a6 = (z : Int) := ⟨a6.toNat, by omega⟩
     have hz : z < A.length := by omega
     have hz0 : 0 <= (z : Int) := by omega
     obtain ⟨d1, y1, r1, r2⟩ := ztb hC he0 (by omega) (t := now + a1) (by omega) (by omega) (by omega) hb (v4.evn (by omega) A[z] (List.getElem_mem _)).g id
     simp only [c1, g5, g6, hz0, if_true, Int.toNat_natCast, zcx A z hz, ZF, r1]
     by_cases hy : y1 = 0
     ·obtain ⟨C', rfl, hC'⟩ := r2 hy
      have c2 : (y1 == 0) = true := by simp [hy]
      simp only [c2]
      exact ⟨p6, C', rfl, D6, hC'.mono (Int.le_refl _) (Nat.le_refl _) (by omega)⟩
     ·have c2 : (y1 == 0) = false := by simp [hy]
      simp only [c2]
      exact ⟨p6, C, rfl, D6, hkeep⟩
    ·have c1 : decide ((A.length : Int) > 0) = false := dF (by omega)
     simp only [c1]
     exact ⟨p4, C, rfl, D4, hkeep⟩
   ·have c0 : ((1 : Int) == 0) = false := by decide
    have c1 : ((1 : Int) == 1) = true := by decide
    obtain ⟨b, p5, g5, hb, D5⟩ := ze8 D3
    obtain ⟨d1, y1, r1, r2⟩ := zri hC he0 (by omega) (t := now + a1) (by omega) (by omega) (by omega) hb id
    simp only [c0, c1, g5, r1]
    by_cases hy : y1 = 0
    ·obtain ⟨C', rfl, hC'⟩ := r2 hy
     have c2 : (y1 == 0) = true := by simp [hy]
     simp only [c2]
     exact ⟨p5, C', rfl, D5, hC'.mono (Int.le_refl _) (Nat.le_refl _) (by omega)⟩
    ·have c2 : (y1 == 0) = false := by simp [hy]
     simp only [c2]
     exact ⟨p5, C, rfl, D5, hkeep⟩
   ·have c0 : ((2 : Int) == 0) = false := by decide
    have c1 : ((2 : Int) == 1) = false := by decide
    have c2 : ((2 : Int) == 2) = true := by decide
    obtain ⟨a4, p4, g4, m4, D4⟩ := zdR 600 (n := mx) (by omega) D3
    obtain ⟨to, rfl⟩ : ∃ to : Nat, a4 = (to : Int) := ⟨a4.toNat, by omega⟩
    obtain ⟨b, p5, g5, hb, D5⟩ := ze8 D4
    obtain ⟨d1, y1, r1, r2⟩ := zxr hC he0 (by omega) (t := now + a1) (by omega) (by omega) (by omega) hb id to
    simp only [c0, c1, c2, g4, g5, r1]
    by_cases hy : y1 = 0
    ·obtain ⟨C', rfl, hC'⟩ := r2 hy
     have c2 : (y1 == 0) = true := by simp [hy]
     simp only [c2]
     exact ⟨p5, C', rfl, D5, hC'.mono (Int.le_refl _) (Nat.le_refl _) (by omega)⟩
    ·have c2 : (y1 == 0) = false := by simp [hy]
     simp only [c2]
     exact ⟨p5, C, rfl, D5, hkeep⟩
   ·have c0 : ((3 : Int) == 0) = false := by decide
    have c1 : ((3 : Int) == 1) = false := by decide
    have c2 : ((3 : Int) == 2) = false := by decide
    have c3 : ((3 : Int) == 3) = true := by decide
    obtain ⟨b, p5, g5, hb, D5⟩ := ze8 D3
    obtain ⟨d1, y1, r1, r2⟩ := zpX hC he0 (by omega) (t := now + a1) (by omega) (by omega) (by omega) hb id
    simp only [c0, c1, c2, c3, g5, r1]
    by_cases hy : y1 = 0
    ·obtain ⟨C', rfl, hC'⟩ := r2 hy
     have c2 : (y1 == 0) = true := by simp [hy]
     simp only [c2]
     exact ⟨p5, C', rfl, D5, hC'.mono (Int.le_refl _) (Nat.le_refl _) (by omega)⟩
    ·have c2 : (y1 == 0) = false := by simp [hy]
     simp only [c2]
     exact ⟨p5, C, rfl, D5, hkeep⟩
   ·have c0 : (a3 == 0) = false := by simp; omega
    have c1 : (a3 == 1) = false := by simp; omega
    have c2 : (a3 == 2) = false := by simp; omega
    have c3 : (a3 == 3) = false := by simp; omega
    obtain ⟨A, p4, g4, l4, v4, D4⟩ := zl1 4 (by omega) D3
    replace g4 : zwF 600 (4, zA xs, p3) = some (A.map zB, zA xs, p4) := g4
    obtain ⟨C', l, r1, r2⟩ := znn hC (by omega) v4 (by omega) (by omega) (t := now + a1) (by omega) (by omega) (by omega)
    have c4 : ((0 : Int) == 0) = true := by decide
    simp only [c0, c1, c2, c3, g4, r1, c4]
    exact ⟨p4, C', rfl, D4, r2.mono (Int.le_refl _) (Nat.le_refl _) (by omega)⟩
  obtain ⟨q, C', k1, k2, k3⟩ := key
  obtain ⟨now', p', C'', s1, s2⟩ := hgo q C' k2 k3
  exact ⟨now', p', C'', hres _ (k1.trans s1), s2⟩
theorem ztt {xs : List Int} {p : Int} (D : Sc xs p) (n : Nat) (hn : n <= 50) : ∃ (C : List (List RT7)) (t p' : Int), zDt 600 ((n : Int), zA xs, p) = some (zP C, t, zA xs, p') /\ Sc xs p' /\ 100 <= t /\ t <= 100 + 50 * n /\ CG t n (4 * n) C := by
 obtain ⟨t, p', C, h1, h2, h3, h4, h5⟩ := zkw n hn [] n 0 600 p 100 [] (by omega) (by omega) D (by omega) (by omega) (CG.nil _ _ _)
 replace h1 : (zaC 600).L 600 ((n : Int), 100, 0, zA xs, p, [], []) = _ := h1
 refine ⟨C, t, p', ?_, h2, h3, h4, h5⟩
 simp only [zDt, FSpec.d, zEb, zBj, h1]
end Go.Proofs.YthdgnfcbehcplaaDoor
end
section
namespace Go.Proofs.YthdgnfcbehcplaaDoor
theorem Kd6.comp {k : Int} (h : Kd6 k) : (k == 1 || k == 2) = true ↔ (k = 1 \/ k = 2) := by simp
theorem zrP {T : Int} {n i : Nat} {v : RT7} (hT : T <= 18014398509481984) (h : VG T n i v) : zxn 600 (v, (i : Int), (n : Int)) = some true := by
 obtain ⟨hk, h0, hT', hb1, hb2, hi1, hi2, he⟩ := h
 obtain ⟨k1, a1, b1, i1, e1⟩ := v
 simp only [kdV, atV, byV, inV, evV] at hk h0 hT' hb1 hb2 hi1 hi2 he
 have c1 : decide (k1 < 1) = false := by rw [decide_eq_false_iff_not]; have := hk.lt; omega
 have c2 : decide (k1 > 6) = false := by rw [decide_eq_false_iff_not]; have := hk.lt; omega
 have c3 : decide (a1 < 0) = false := dF (by omega)
 have c4 : decide (a1 > 18014398509481984) = false := dF (by omega)
 have c5 : zny 600 (zy (k1, a1, b1, i1, e1)) = some true := he.pv'
 have c6 : 0 <= k1 /\ k1 < 7 := ⟨hk.lt.1, hk.lt.2.1⟩
 have c7 := zsC hk
 simp only [zxn, FSpec.d, zkP]
 simp only [c1, c2, c3, c4, c5, Bool.not_true, c6, and_self, if_true, c7]
 have hin : ∀ (r : Bool), r = false -> True := fun _ _ => trivial
 by_cases h12 : k1 = 1 \/ k1 = 2
 ·have d1 : (k1 == 1 || k1 == 2) = true := hk.comp.2 h12
  have d2 : ((nob).toList == (⟨#[]⟩ : ByteArray).toList) = true := by kernel_rfl
  have d3 : (k1 == 5) = false := by simp; omega
  have d4 : (i1 == 0) = true := by simp [hi1 (by omega)]
  rw [hb1 h12]
  simp only [d1, d2, Bool.not_true, d3, d4]
 ·have d1 : (k1 == 1 || k1 == 2) = false := by
   cases hc : (k1 == 1 || k1 == 2) with
   | false => rfl
   | true => exact absurd (hk.comp.1 hc) h12
  have d2 := (zmY (hb2 h12)).2.1
  simp only [d1, d2, Bool.not_true, Bool.not_false]
  by_cases h5 : k1 = 5
  ·obtain ⟨p1, p2, p3⟩ := hi2 h5
   have d3 : (k1 == 5) = true := by simp [h5]
   have d4 : decide (i1 >= 0) = true := dT (by omega)
   have d5 : decide (i1 < (n : Int)) = true := dT (by omega)
   have d6 : (i1 != (i : Int)) = true := by simp [p3]
   simp only [d3, d4, d5, d6]
  ·have d3 : (k1 == 5) = false := by simp [h5]
   have d4 : (i1 == 0) = true := by simp [hi1 h5]
   simp only [d3, d4]
theorem znW {T : Int} {m e : Nat} {C : List (List RT7)} (hT : T <= 18014398509481984) (he : e <= 500) (hm : m <= 100) (hC : CG T m e C) (i : Nat) (hi : i < C.length) : ∀ (d k f : Nat), k + d = C[i].length -> d < f -> (ZO 600).L f (zP C, C[i].map zM, (i : Int), (C.length : Int), (i : Int), (C[i].length : Int), (k : Int), zP C, C[i].map zM) = some (.inr (zP C, (C.length : Int), (i : Int), zP C)) := by
 have h := hC.xs i hi
 have hle := hC.le
 have hxl := h.le
 intro d
 induction d with
 | zero =>
  intro k f hk hf
  obtain ⟨f, rfl⟩ := pS hf
  show (ZO 600).b _ _ ((ZO 600).L f) some = _
  have e2 : decide ((k : Int) < (C[i].length : Int)) = false := dF (by omega)
  simp only [ZO]
  simp only [e2]
 | succ d ih =>
  intro k f hk hf
  obtain ⟨f, rfl⟩ := pS hf
  have r1 := ih (k + 1) f (by omega) (by omega)
  show (ZO 600).b _ _ ((ZO 600).L f) some = _
  generalize (ZO 600).L f = Lf at r1 |-
  obtain ⟨x, hx⟩ : ∃ x, x = C[i] := ⟨_, rfl⟩
  rw [<- hx] at h hxl hk r1 |-
  have hkl : k < x.length := by omega
  have e2 : decide ((k : Int) < (x.length : Int)) = true := dT (by omega)
  have h0 : 0 <= (k : Int) := by omega
  have hv := h.vs k hkl
  have hs := zrP hT hv
  have n1 := zp (show k < 1000000 by omega)
  simp only [ZO]
  simp only [e2, h0, if_true, Int.toNat_natCast, zp5 x k hkl, rd7, zU, hs, Bool.not_true, n1]
  by_cases hk0 : k = 0
  ·subst hk0
   have d6 : (((0 : Nat) : Int) == 0) = true := by decide
   simp only [d6]
   exact r1
  ·have d6 : ((k : Int) == 0) = false := by simp [hk0]
   obtain ⟨k', rfl⟩ : ∃ k', k = k' + 1 := ⟨k - 1, by omega⟩
   obtain ⟨s1, s2, s3⟩ := h.st k' hkl
   have hv' := h.vs k' (by omega)
   have d7 : i64 (((k' + 1 : Nat) : Int) - 1) = (k' : Int) := by rw [Zz (by omega)]; omega
   have d8 : decide (x[k' + 1].2.1 < x[k'].2.1) = false := by rw [decide_eq_false_iff_not]; simp only [atV] at s1; omega
   have h0' : 0 <= (k' : Int) := by omega
   have q1 : 0 <= x[k' + 1].1 /\ x[k' + 1].1 < 7 := ⟨hv.kd.lt.1, hv.kd.lt.2.1⟩
   have q2 : 0 <= x[k'].1 /\ x[k'].1 < 7 := ⟨hv'.kd.lt.1, hv'.kd.lt.2.1⟩
   have t1 := zwR hv.kd hv'.kd
   have t2 := zt0 hv.kd
   simp only [kdV] at t1 t2 s2
   rw [s2] at t1
   simp only [d6, d7, h0', if_true, Int.toNat_natCast, zp5 x k' (by omega), rd7, d8, q1, q2, and_self, t1, Bool.not_true, t2]
   cases hkp : zch x[k' + 1].1 with
   | false => exact r1
   | true =>
    have s4 := s3 hkp
    obtain ⟨b, w1, w2⟩ := ziM (evV x[k' + 1]) (evV x[k']) hv.ev.pk hv'.ev.pk
    rw [w2.2 s4.symm] at w1
    replace w1 : zkG 600 (zy x[k' + 1], zy x[k']) = some true := w1
    simp only [w1, Bool.not_true]
    exact r1
theorem zka {T : Int} {m e : Nat} {C : List (List RT7)} (hT : T <= 18014398509481984) (he : e <= 500) (hm : m <= 100) (hC : CG T m e C) : ∀ (d k f : Nat), k + d = C.length -> d < f -> (jF 600).L f (zP C, (C.length : Int), (k : Int), zP C) = some (.inr ()) := by
 have hle := hC.le
 intro d
 induction d with
 | zero =>
  intro k f hk hf
  obtain ⟨f, rfl⟩ := pS hf
  show (jF 600).b _ _ ((jF 600).L f) some = _
  have e2 : decide ((k : Int) < (C.length : Int)) = false := dF (by omega)
  simp only [jF]
  simp only [e2]
 | succ d ih =>
  intro k f hk hf
  obtain ⟨f, rfl⟩ := pS hf
  have r1 := ih (k + 1) f (by omega) (by omega)
  have hkl : k < C.length := by omega
  have h := hC.xs k hkl
  have hp := h.pos
  have hxl := h.le
  have r2 := znW hT he hm hC k hkl C[k].length 0 600 (by omega) (by omega)
  replace r2 : (ZO 600).L 600 (zP C, C[k].map zM, (k : Int), (C.length : Int), (k : Int), (C[k].length : Int), 0, zP C, C[k].map zM) = _ := r2
  show (jF 600).b _ _ ((jF 600).L f) some = _
  generalize (jF 600).L f = Lf at r1 |-
  have e2 : decide ((k : Int) < (C.length : Int)) = true := dT (by omega)
  have h0 : 0 <= (k : Int) := by omega
  have n1 := zp (show k < 1000000 by omega)
  have c1 : decide ((C[k].length : Int) < 1) = false := dF (by omega)
  have c2 : decide ((C[k].length : Int) > 100) = false := dF (by omega)
  have c3 : (C[k].map zM)[(0 : Int).toNat]? = some (zM C[k][0]) := zp5 C[k] 0 hp
  have c4 : ((zM C[k][0]).drop 0)[0]? = some (.v (.int .i64 C[k][0].1)) := rfl
  have c5 : (C[k][0].1 != 1) = false := by have := h.hd hp; simp only [kdV] at this; simp [this]
  have c6 : (0 : Int) <= 0 := by omega
  simp only [jF]
  simp only [e2, h0, if_true, Int.toNat_natCast, Zc C k hkl, rd6, List.length_map, c1, c2, c6, c3, c4, c5, znH, r2, n1]
  exact r1
theorem zxo {T : Int} {m e : Nat} {C : List (List RT7)} (hT : T <= 18014398509481984) (he : e <= 500) (hm : m <= 100) (h : CG T m e C) : zmE 600 (zP C) = some true := by
 have hle := h.le
 have h1 := zka hT he hm h C.length 0 600 (by omega) (by omega)
 replace h1 : (jF 600).L 600 (zP C, (C.length : Int), 0, zP C) = some (.inr ()) := h1
 have e2 : decide ((C.length : Int) > 500) = false := dF (by omega)
 simp only [zmE, FSpec.d, zdS, zvJ, zU, e2, h1]
theorem zmt {T : Int} {m e : Nat} {C : List (List RT7)} (he : e <= 500) (hm : m <= 100) (hC : CG T m e C) (i : Nat) (hi : i < C.length) : ∀ (d k f : Nat) (y : Int), k + d = C[i].length -> d < f -> y <= T -> ∃ y', (ZQ 600).L f (zP C, C[i].map zM, y, (C.length : Int), (i : Int), (C[i].length : Int), (k : Int)) = some (zP C, y', (C.length : Int), (i : Int)) /\ y' <= T := by
 have h := hC.xs i hi
 have hle := hC.le
 have hxl := h.le
 intro d
 induction d with
 | zero =>
  intro k f y hk hf hy
  obtain ⟨f, rfl⟩ := pS hf
  refine ⟨y, ?_, hy⟩
  show (ZQ 600).b _ _ ((ZQ 600).L f) some = _
  have e2 : decide ((k : Int) < (C[i].length : Int)) = false := dF (by omega)
  simp only [ZQ]
  simp only [e2]
 | succ d ih =>
  intro k f y hk hf hy
  obtain ⟨f, rfl⟩ := pS hf
  have hkl : k < C[i].length := by omega
  have hv := (h.vs k hkl).atT
  obtain ⟨y', r1, r2⟩ := ih (k + 1) f (if C[i][k].2.1 > y then C[i][k].2.1 else y) (by omega) (by omega) (by
   simp only [atV] at hv
   split <;> omega)
  refine ⟨y', ?_, r2⟩
  show (ZQ 600).b _ _ ((ZQ 600).L f) some = _
  generalize (ZQ 600).L f = Lf at r1 |-
  have e2 : decide ((k : Int) < (C[i].length : Int)) = true := dT (by omega)
  have h0 : 0 <= (k : Int) := by omega
  simp only [ZQ]
  simp only [e2, h0, if_true, Int.toNat_natCast, zp5 C[i] k hkl, rd7, zp (show k < 1000000 by omega)]
  exact r1
theorem zjN {T : Int} {m e : Nat} {C : List (List RT7)} (he : e <= 500) (hm : m <= 100) (hC : CG T m e C) : ∀ (d k f : Nat) (y : Int), k + d = C.length -> d < f -> y <= T -> ∃ y' : Int, (jE 600).L f (zP C, y, (C.length : Int), (k : Int)) = some y' /\ y' <= T := by
 have hle := hC.le
 intro d
 induction d with
 | zero =>
  intro k f y hk hf hy
  obtain ⟨f, rfl⟩ := pS hf
  refine ⟨y, ?_, hy⟩
  show (jE 600).b _ _ ((jE 600).L f) some = _
  have e2 : decide ((k : Int) < (C.length : Int)) = false := dF (by omega)
  simp only [jE]
  simp only [e2]
 | succ d ih =>
  intro k f y hk hf hy
  obtain ⟨f, rfl⟩ := pS hf
  have hkl : k < C.length := by omega
  have hxl := (hC.xs k hkl).le
  obtain ⟨y1, a1, a2⟩ := zmt he hm hC k hkl C[k].length 0 600 y (by omega) (by omega) hy
  replace a1 : (ZQ 600).L 600 (zP C, C[k].map zM, y, (C.length : Int), (k : Int), (C[k].length : Int), 0) = _ := a1
  obtain ⟨y', r1, r2⟩ := ih (k + 1) f y1 (by omega) (by omega) a2
  refine ⟨y', ?_, r2⟩
  show (jE 600).b _ _ ((jE 600).L f) some = _
  generalize (jE 600).L f = Lf at r1 |-
  have e2 : decide ((k : Int) < (C.length : Int)) = true := dT (by omega)
  have h0 : 0 <= (k : Int) := by omega
  simp only [jE]
  simp only [e2, h0, if_true, Int.toNat_natCast, Zc C k hkl, rd6, List.length_map, zmi, a1, zp (show k < 1000000 by omega)]
  exact r1
theorem zrI {T t : Int} {m e : Nat} {C : List (List RT7)} (he : e <= 500) (hm : m <= 100) (hC : CG T m e C) (hT : T <= t) (h0 : 0 <= t) (ht : t <= 18014398509481984) (hT0 : 0 <= T) : zuY 600 (zP C, t) = some 0 := by
 have hle := hC.le
 obtain ⟨y, h1, h2⟩ := zjN he hm hC C.length 0 600 0 (by omega) (by omega) hT0
 replace h1 : (jE 600).L 600 (zP C, 0, (C.length : Int), 0) = some y := h1
 have c1 : decide (t < 0) = false := dF (by omega)
 have c2 : decide (t > 18014398509481984) = false := dF (by omega)
 have c3 : decide (t < y) = false := dF (by omega)
 simp only [zuY, FSpec.d, zdP, c1, c2, c3, zAW, zdZ, zvU, zU, h1]
theorem zBQ (x : List (List AV)) (h : x.length <= 100000) : zrn 600 x = some x := by
 have hb : ((([] : List (List AV)).length + x.length) * 104 <= zh) = True := by unfold zh; simp; omega
 simp only [zrn, FSpec.d, zlm]
 cases x with
 | nil => simp only [hb, if_true]; exact if_pos rfl
 | cons a l => simp only [hb, if_true, List.nil_append]
theorem za2 {e : RT0} (h : za7 e) : zd5 600 e = some e := by
 obtain ⟨P, h1, h2⟩ := h
 have hc : zrn 600 e.2.2.2.2.2.2.2.2.2.1 = some e.2.2.2.2.2.2.2.2.2.1 := zBQ _ (by
  have : e.2.2.2.2.2.2.2.2.2.1 = P.map zw := h2
  rw [this]; simp; omega)
 simp only [zd5, FSpec.d, zjP, hc]
theorem zrJ {T : Int} {m e : Nat} {C : List (List RT7)} (he : e <= 500) (hm : m <= 100) (hC : CG T m e C) (i : Nat) (hi : i < C.length) (X : List (List AV)) (N : Nat) (cs : List AV) (hcs : cs.map datF = cs) (j M : Nat) : ∀ (d k f : Nat), k + d = C[i].length -> d < f -> (Zq 600).L f ((C[i].take k).map zM, zP C, C[i].map zM, (C.length : Int), (i : Int), (C[i].length : Int), (k : Int), X, N, cs, j, M) = some (C[i].map zM, zP C, (C.length : Int), (i : Int), X, N, cs, j, M) := by
 have h := hC.xs i hi
 have hle := hC.le
 have hxl := h.le
 intro d
 induction d with
 | zero =>
  intro k f hk hf
  obtain ⟨f, rfl⟩ := pS hf
  show (Zq 600).b _ _ ((Zq 600).L f) some = _
  have e2 : decide ((k : Int) < (C[i].length : Int)) = false := dF (by omega)
  have e3 : C[i].take k = C[i] := List.take_of_length_le (by omega)
  simp only [Zq]
  simp only [e2, e3, hcs]
 | succ d ih =>
  intro k f hk hf
  obtain ⟨f, rfl⟩ := pS hf
  have hkl : k < C[i].length := by omega
  have r1 := ih (k + 1) f (by omega) (by omega)
  show (Zq 600).b _ _ ((Zq 600).L f) some = _
  generalize (Zq 600).L f = Lf at r1 |-
  have e2 : decide ((k : Int) < (C[i].length : Int)) = true := dT (by omega)
  have h0 : 0 <= (k : Int) := by omega
  have hc := za2 (h.vs k hkl).ev.pk
  replace hc : zd5 600 (zy C[i][k]) = some (evV C[i][k]) := hc
  have b1 : (((C[i].take k).map zM).length + 1) * 288 <= zh := by unfold zh; simp; omega
  have e3 : (C[i].take (k + 1)).map zM = (C[i].take k).map zM ++ [zM C[i][k]] := by
   rw [<- List.take_append_getElem hkl, List.map_append]; rfl
  rw [e3] at r1
  simp only [Zq]
  simp only [e2, h0, if_true, Int.toNat_natCast, zp5 C[i] k hkl, rd7, hc, hcs, zp (show k < 1000000 by omega), List.length_cons, List.length_nil, Nat.zero_add]
  exact (if_pos b1).trans r1
theorem zn4 {T : Int} {m e : Nat} {C : List (List RT7)} (he : e <= 500) (hm : m <= 100) (hC : CG T m e C) (X : List (List AV)) : ∀ (d k f : Nat) (cs : List AV), k + d = C.length -> d < f -> FC (C.take k) 0 cs -> ∃ cs', (ZR 600).L f (zP C, (C.length : Int), (k : Int), X, k, cs, 0, k) = some (X, C.length, cs', 0, C.length) /\ FC C 0 cs' := by
 have hle := hC.le
 intro d
 induction d with
 | zero =>
  intro k f cs hk hf hc
  obtain ⟨f, rfl⟩ := pS hf
  obtain rfl : k = C.length := by omega
  rw [List.take_length] at hc
  refine ⟨cs, ?_, hc⟩
  show (ZR 600).b _ _ ((ZR 600).L f) some = _
  have e2 : decide ((C.length : Int) < (C.length : Int)) = false := dF (by omega)
  simp only [ZR]
  simp only [e2, hc.dF]
 | succ d ih =>
  intro k f cs hk hf hc
  obtain ⟨f, rfl⟩ := pS hf
  have hkl : k < C.length := by omega
  have hxl := (hC.xs k hkl).le
  have hn := hc.snoc C[k]
  have hlk : (C.take k).length = k := by simp; omega
  rw [hlk, List.take_append_getElem] at hn
  obtain ⟨cs', r1, r2⟩ := ih (k + 1) f _ (by omega) (by omega) hn
  have a1 := zrJ he hm hC k hkl X k cs hc.dF 0 k C[k].length 0 600 (by omega) (by omega)
  replace a1 : (Zq 600).L 600 ([], zP C, C[k].map zM, (C.length : Int), (k : Int), (C[k].length : Int), 0, X, k, cs, 0, k) = _ := a1
  refine ⟨cs', ?_, r2⟩
  show (ZR 600).b _ _ ((ZR 600).L f) some = _
  generalize (ZR 600).L f = Lf at r1 |-
  have e2 : decide ((k : Int) < (C.length : Int)) = true := dT (by omega)
  have h0 : 0 <= (k : Int) := by omega
  have b2 : ((True /\ 0 <= k) /\ k * 1 <= cs.length /\ (k + 1) * 24 <= zh) = True := by rw [hc.1, hlk]; unfold zh; simp; omega
  simp only [ZR]
  simp only [e2, h0, if_true, Int.toNat_natCast, Zc C k hkl, rd6, List.length_map, hc.dF, ziX, a1, b2, zp (show k < 1000000 by omega)]
  exact r1
theorem zzz {T : Int} {m e : Nat} {C : List (List RT7)} (he : e <= 500) (hm : m <= 100) (hC : CG T m e C) : ∃ cs, ziC 600 (zP C) = some (C.length, cs, 0, C.length) /\ FC C 0 cs := by
 have hle := hC.le
 obtain ⟨cs, h1, h2⟩ := zn4 he hm hC [] C.length 0 600 [] (by omega) (by omega) (by simpa using FC.nil)
 refine ⟨cs, ?_, h2⟩
 replace h1 : (ZR 600).L 600 (zP C, (C.length : Int), 0, [], 0, [], 0, 0) = some ([], C.length, cs, 0, C.length) := h1
 simp only [ziC, FSpec.d, zaj, znY, zU, h1, h2.dF]
end Go.Proofs.YthdgnfcbehcplaaDoor
end
