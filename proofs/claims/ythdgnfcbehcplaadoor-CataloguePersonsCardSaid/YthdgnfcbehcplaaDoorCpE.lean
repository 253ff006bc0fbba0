/- Several texts as one (written by pack.py). -/
import Derived.Test.YthdgnfcbehcplaaDoorCpD
set_option linter.unusedVariables false
set_option linter.unusedSimpArgs false
set_option linter.unnecessarySimpa false
section
namespace Go.Proofs.YthdgnfcbehcplaaDoor
noncomputable section
open Go.RowKit
set_option maxRecDepth 4000
set_option maxHeartbeats 4000000
def zxy : Nat -> Keep × Keep := anL []
def zD9 (N : Nat) : GamK := gam (P := qP) []
def znk (N : Nat) : FSpec where
 X := qL
 Y := qL
 ash := [[some 29]]
 S := ⟨[[none]], [], [some 29], [], []⟩
 pat := fun a b => rdA [.lst 29] [] a b fun ⟨a0, _⟩ _ => a0
 args := fun x => [(AV.list 29 x none)]
 ret := fun y => ⟨(AV.fn (.func 91) [] [(AV.ptr 0 0)]), [], some [(AV.list 29 y none)], [], [], [], none⟩
 t := fun x α k => (k x)
abbrev zDB (N : Nat) (x : qL) : Option (qL) := (znk N).d x
theorem zuK (N : Nat) : Zd (znk N).t := by
 intro x α β k k' r r' h h1
 revert h
 dsimp only [znk]
 (repeat' (first | (with_reducible refine ze ?_ ?_) | split)) <;> intro h <;> first | exact h1 _ h | cases h
theorem zqV (N : Nat) : Zh (zn qP) (zD9 N) zxy (lam N []) Tryd.f67 (znk N) := fun x => by kernel_rfl
def zDm (N : Nat) : Ent qP := zy (zd qP) (zi _) zl 67 Tryd.f67 Tryd.func67 rfl zxy (lam N []) (zm (l := []) an (by kernel_rfl)) (znk N) (fun _ => ⟨rfl, rfl⟩) (zqV N) (fun _ _ _ h => zu h (fun _ _ => rfl) (fun _ _ => rfl)) (zuK N)
def zeS : Nat -> Keep × Keep := anL []
def znd (N : Nat) : GamK := gam (P := qP) [zvl N]
def ZX (N : Nat) : FSpec where
 X := Int × RT7 × Int × qL
 Y := Bool × Int × qL
 ash := []
 S := ⟨[], [[none], [some 2000025]], [], [6400262144], []⟩
 pat := fun a b => rdA [.any, .any, .any, .ptr 0 0, .any, .ptr 1 0, .any, .any, .any, .any, .any, .any, .any, .any, .any, .any, .any, .any, .any, .any, .any, .any, .any, .int .i64, .agg RK7, .any, .any, .any, .any, .any, .any, .any, .any, .any, .any, .any, .any, .any, .any, .any, .any] [.cells [.int .i64], .cells [.tok 25 6400262144]] a b fun ⟨_, _, _, _, _, _, _, _, _, _, _, _, _, _, _, _, _, _, _, _, _, _, _, a0, a1, _, _, _, _, _, _, _, _, _, _, _, _, _, _, _, _, _⟩ ⟨⟨a2, _⟩, ⟨a3, _⟩, _⟩ => (a0, a1, a2, a3)
 args := fun x => [AV.any, AV.any, AV.any, (AV.ptr 0 0), AV.any, (AV.ptr 1 0), AV.any, AV.any, AV.any, AV.any, AV.any, AV.any, AV.any, AV.any, AV.any, AV.any, AV.any, AV.any, AV.any, AV.any, AV.any, AV.any, AV.any, (AV.v (.int .i64 x.1)), (AV.agg (zN x.2.1)), AV.any, AV.any, AV.any, AV.any, AV.any, AV.any, AV.any, AV.any, AV.any, AV.any, AV.any, AV.any, AV.any, AV.any, AV.any, AV.any]
 bs := fun x => [[(AV.v (.int .i64 x.2.2.1))], [(AV.list 25 x.2.2.2 (some 6400262144))]]
 ret := fun y => ⟨.v (.bool y.1), [[(AV.v (.int .i64 y.2.1))], [(AV.list 25 y.2.2 (some 6400262144))]], none, [6400262144], [6400262144], [], none⟩
 t := fun x α k => (match (decide (x.2.1.2.1 <= x.2.2.1)) with | true => (if 0 <= x.2.1.1 /\ x.2.1.1 < 7 then (match ((gtab0.map AV.v).drop (x.2.1.1.toNat * 1))[0]? with | some x1 => (match x1 with | .v (.bool b2) => (match b2 with | true => (match zdq N (zx x.2.1) with | some y3 => (if (x.2.2.2.length + [(zB y3)].length) * 248 <= zh then (k (false, x.2.2.1, (x.2.2.2 ++ [(zB y3)]))) else none) | none => none) | false => (k (false, x.2.2))) | _ => none) | none => none) else none) | false => (k (true, x.2.2)))
abbrev znm (N : Nat) (x : Int × RT7 × Int × qL) : Option (Bool × Int × qL) := (ZX N).d x
def zbs : Code := zAh (zc 17 (Tryd.f43.body.getD .skip))
def zbn : Code := zxS (zc 17 (Tryd.f43.body.getD .skip))
theorem zgD (N : Nat) : Zd (ZX N).t := by
 intro x α β k k' r r' h h1
 revert h
 dsimp only [ZX]
 (repeat' (first | (with_reducible refine ze ?_ ?_) | split)) <;> intro h <;> first | exact h1 _ h | cases h
theorem zg8 (N : Nat) (x : (ZX N).X) : zjj (zn qP) (znd N) zeS (lam N []) zbs zbn 9000 9100 2 (ZX N).S ((ZX N).args x) ((ZX N).bs x) = (ZX N).t x Ret (fun y => some ((ZX N).ret y)) := by kernel_rfl
def zgg (N : Nat) : REnt qP zbs zbn 2 := zBl (zd qP) (zi _) zl zeS (lam N []) zbs zbn 9000 9100 2 (by kernel_rfl) (by kernel_rfl) (ZX N) (fun _ => ⟨rfl, rfl⟩) (zg8 N) (fun _ _ _ h => zu h (fun _ _ => rfl) (fun _ _ => rfl)) (zgD N)
def JO : Nat -> Keep × Keep := anL [(9, ⟨[3, 5, 15, 16], [], [3, 5], [(14, 1)], [((5, 0), 25)], [], [], [], false, none, []⟩, ⟨[5], [], [5], [], [((5, 0), 25)], [], [], [], false, none, []⟩), (17, ⟨[3, 5, 15, 16, 22], [], [3, 5, 22], [(14, 1)], [((5, 0), 25)], [], [], [], true, none, []⟩, ⟨[3, 5, 15, 16], [], [3, 5], [(14, 1)], [((5, 0), 25)], [], [], [], false, none, []⟩)]
def zAQ (N : Nat) : GamK := gam (P := qP) [zzm N, zDm N]
def ZU (N : Nat) : LSpec where
 X := qL × Int × Int × Int × qL × qL × Nat
 Y := (qL × Int × Int × Int × qL)
 p := fun s => rdS 41 0 [(14, .lst 1), (3, .ptr 3 0), (5, .ptr 5 0), (15, .int .i64), (16, .int .i64), (22, .fn1 91 22)] [(3, .cells [.int .i64]), (5, .cells [.tok 25 6401310720]), (22, .cells [.lst 29])] s fun ⟨a0, _, _, a1, a2, _, _⟩ ⟨⟨a3, _⟩, ⟨a4, _⟩, ⟨a5, _⟩, _⟩ => (a0, a1, a2, a3, a4, a5, a5.length)
 st := fun u17 => mkS 41 [(14, (AV.list 1 u17.1 none)), (3, (AV.ptr 3 0)), (5, (AV.ptr 5 0)), (15, (qI u17.2.1)), (16, (qI u17.2.2.1)), (22, (AV.fn (.func 91) [] [(AV.ptr 22 0)]))] [(3, [(qI u17.2.2.2.1)]), (5, [(AV.list 25 u17.2.2.2.2.1 (some 6401310720))]), (22, [(AV.list 29 u17.2.2.2.2.2.1 none)])] (JO 17).1.toks 0
 out := fun y => (.normal, mkS 41 [(14, (AV.list 1 y.1 none)), (3, (AV.ptr 3 0)), (5, (AV.ptr 5 0)), (15, (qI y.2.1)), (16, (qI y.2.2.1))] [(3, [(qI y.2.2.2.1)]), (5, [(AV.list 25 y.2.2.2.2 (some 6401310720))])] (JO 17).2.toks 0)
 b := fun u17 α kn ke => (if u17.2.2.2.2.2.1.length <= 1000000 then (match u17.2.2.2.2.2.2 with | 0 => (ke (u17.1, u17.2.1, u17.2.2.1, u17.2.2.2.1, u17.2.2.2.2.1)) | m17 + 1 => (match u17.2.2.2.2.2.1[m17]? with | some r17 => (match zrC RK7 r17 with | some e17 => (match znm N ((m17 : Int), e17, u17.2.2.2.1, u17.2.2.2.2.1) with | some y5 => (match y5.1 with | true => (kn (u17.1, u17.2.1, u17.2.2.1, y5.2.1, y5.2.2, u17.2.2.2.2.2.1, m17)) | false => (ke (u17.1, u17.2.1, u17.2.2.1, y5.2))) | none => none) | none => none) | none => none)) else none)
abbrev zxL (N : Nat) (x : qL × Int × Int × Int × qL × qL × Nat) : Option ((qL × Int × Int × Int × qL)) := (ZU N).L N x
def zdL (N : Nat) : LSpec where
 X := qL × Int × Int × Int × qL
 Y := (qL)
 p := fun s => rdS 41 0 [(14, .lst 1), (3, .ptr 3 0), (5, .ptr 5 0), (15, .int .i64), (16, .int .i64)] [(3, .cells [.int .i64]), (5, .cells [.tok 25 6401310720])] s fun ⟨a0, _, _, a1, a2, _⟩ ⟨⟨a3, _⟩, ⟨a4, _⟩, _⟩ => (a0, a1, a2, a3, a4)
 st := fun u9 => mkS 41 [(14, (AV.list 1 u9.1 none)), (3, (AV.ptr 3 0)), (5, (AV.ptr 5 0)), (15, (qI u9.2.1)), (16, (qI u9.2.2.1))] [(3, [(qI u9.2.2.2.1)]), (5, [(AV.list 25 u9.2.2.2.2 (some 6401310720))])] (JO 9).1.toks 0
 out := fun y => (.exit 0, mkS 41 [(5, (AV.ptr 5 0))] [(5, [(AV.list 25 y (some 6401310720))])] (JO 9).2.toks 0)
 b := fun u9 α kn ke => (match (decide (u9.2.2.1 < u9.2.1)) with | true => (if 0 <= u9.2.2.1 then (match u9.1[u9.2.2.1.toNat]? with | some c7 => (match zfU c7 with | some e8 => (match zDB N e8.1 with | some y9 => (match zxL N (u9.1, u9.2.1, u9.2.2.1, u9.2.2.2.1, u9.2.2.2.2, y9, y9.length) with | some y10 => (kn (y10.1, y10.2.1, (i64 (y10.2.2.1 + 1)), y10.2.2.2)) | none => none) | none => none) | none => none) | none => none) else none) | false => (ke u9.2.2.2.2))
abbrev zBs (N : Nat) (x : qL × Int × Int × Int × qL) : Option ((qL)) := (zdL N).L N x
def zfx (N : Nat) : FSpec where
 X := qL × Int
 Y := qL
 ash := [[some 1], [none]]
 S := ⟨[[some 2000025]], [], [], [], []⟩
 pat := fun a b => zk a fun v1 c2 => jg v1 fun c3 => zk c3 fun c4 c5 => Z3 1 c4 fun a0 => zQ c5 <| zk c2 fun v6 c7 => jQ .i64 v6 fun a1 => zQ c7 <| zQ b <| some (a0, a1)
 args := fun x => [(AV.agg [(AV.list 1 x.1 none)]), (AV.v (.int .i64 x.2))]
 ret := fun y => ⟨(AV.list 25 y (some 2560000000)), [], none, [], [2560000000], [], none⟩
 t := fun x α k => (match zno N x.1 with | some y1 => (match (!y1) with | true => (k ([] : qL)) | false => (match zBs N (x.1, (x.1.length : Int), 0, x.2, ([] : qL)) with | some y11 => (k y11) | none => none)) | none => none)
abbrev zyg (N : Nat) (x : qL × Int) : Option (qL) := (zfx N).d x
def zdC (N : Nat) : List (Nat × LSpec) := [(9, zdL N), (17, ZU N)]
def zgc : Code := Tryd.f43.body.getD .skip
theorem zo9 (N : Nat) : Par (ZU N).b := by
 intro x α β kn ke kn' ke' r r' h h1 h2
 revert h
 dsimp only [ZU]
 (repeat' (first | (with_reducible refine ze ?_ ?_) | split)) <;> intro h <;> first | exact h1 _ h | exact h2 _ h | cases h
theorem zlH (N : Nat) (u17 : (ZU N).X) (α : Type) (kn : Nat -> AS -> Option α) (ke : Out -> Option α) : zah (zgg N).F JO 17 fBk RK7 22 23 24 [3, 5] u17.2.2.2.2.2.2 ((ZU N).st u17) kn ke = (ZU N).b u17 α (fun x => kn x.2.2.2.2.2.2 ((ZU N).st x)) (fun y => (ZU N).sp y α ke) := by kernel_rfl
theorem zrW (N : Nat) (u17 : (ZU N).X) : ((ZU N).st u17).at 22 = .fn (.func fBk) [] [.ptr 22 0] := by kernel_rfl
theorem zqQ (N : Nat) (u17 : (ZU N).X) : ((ZU N).st u17).cx 22 = some [.list 29 u17.2.2.2.2.2.1 none] := by kernel_rfl
theorem zeJ (N : Nat) : ZK qP JO N (zdC N) 17 (zc 17 zgc) :=
 zxW JO N (zdC N) 17 zgc (by kernel_rfl) (by decide) (zgg N) (ZU N) (fun x => x.2.2.2.2.2.2) rfl (fun s x hc h => by dsimp only [ZU] at h; exact zJ hc h (fun _ _ => rfl) rfl rfl rfl) 22 (fun u17 => u17.2.2.2.2.2.1) (zrW N) (zqQ N) (fun s x h => by dsimp only [ZU] at h; obtain ⟨a, b, rfl⟩ := zBr h; rfl) (fun x b h => zpb rfl h) (fun y b h => zpb rfl h) (zlH N) (zo9 N)
theorem zsE (N : Nat) : Par (zdL N).b := by
 intro x α β kn ke kn' ke' r r' h h1 h2
 revert h
 dsimp only [zdL]
 (repeat' (first | (with_reducible refine ze ?_ ?_) | split)) <;> intro h <;> first | exact h1 _ h | exact h2 _ h | cases h
theorem zo1 (N : Nat) : ji (zn qP) (zAQ N) JO N (zdC N) 9 zgc (zdL N) := fun x α kn ke => by kernel_rfl
theorem zmv (N : Nat) : ZK qP JO N (zdC N) 9 (zc 9 zgc) :=
 zD (zd qP) (zi _) zl JO N (zdC N) 9 zgc (l := [(17, zc 17 zgc)]) (by kernel_rfl) (by kernel_rfl) (al (zeJ N) an) (zdL N) rfl (fun s x hc h => by dsimp only [zdL] at h; exact zJ hc h (fun _ _ => rfl) rfl rfl rfl) (fun _ => rfl) (zo1 N) (zsE N)
theorem zua (N : Nat) : Zd (zfx N).t := by
 intro x α β k k' r r' h h1
 revert h
 dsimp only [zfx]
 (repeat' (first | (with_reducible refine ze ?_ ?_) | split)) <;> intro h <;> first | exact h1 _ h | cases h
theorem zu5 (N : Nat) : Zh (zn qP) (zAQ N) JO (lam N (zdC N)) Tryd.f43 (zfx N) := fun x => by kernel_rfl
theorem zy5 (N : Nat) (a : List AV) (b : qL) (x : (zfx N).X) (h : (zfx N).pat a b = some x) : a = (zfx N).args x /\ b = (zfx N).bs x := by
 obtain ⟨v1, c2, rfl, g0⟩ := zb (show zk _ _ = some x from h)
 obtain ⟨c3, rfl, g1⟩ := zR g0; clear g0
 obtain ⟨c4, c5, rfl, g2⟩ := zb g1; clear g1
 obtain ⟨a0, rfl, g3⟩ := zr g2; clear g2
 obtain ⟨rfl, g4⟩ := zg g3; clear g3
 obtain ⟨v6, c7, rfl, g5⟩ := zb g4; clear g4
 obtain ⟨a1, rfl, g6⟩ := zC g5; clear g5
 obtain ⟨rfl, g7⟩ := zg g6; clear g6
 obtain ⟨rfl, g8⟩ := zg g7; clear g7
 clear h
 cases g8
 exact ⟨rfl, rfl⟩
def zDN (N : Nat) : Ent qP := zy (zd qP) (zi _) zl 43 Tryd.f43 Tryd.func43 rfl JO (lam N (zdC N)) (zm (l := [(9, zc 9 zgc), (17, zc 17 zgc)]) (al (zmv N) (al (zeJ N) an)) (by kernel_rfl)) (zfx N) (fun _ => ⟨rfl, rfl⟩) (zu5 N) (zy5 N) (zua N)
end
end Go.Proofs.YthdgnfcbehcplaaDoor
end
section
namespace Go.Proofs.YthdgnfcbehcplaaDoor
noncomputable section
open Go.RowKit
set_option maxRecDepth 4000
set_option maxHeartbeats 4000000
def zBa (N : Nat) : FSpec where
 X := qL × Int
 Y := Int × qL × Int
 ash := [[none]]
 bsh := [[some 2000001, none]]
 S := ⟨[[none]], [[some 2000001, none]], [], [6400000000], []⟩
 pat := fun a b => rdA [.ptr 0 0] [.cells [.tok 1 6400000000, .int .i64]] a b fun ⟨_, _⟩ ⟨⟨a0, a1, _⟩, _⟩ => (a0, a1)
 args := fun x => [(AV.ptr 0 0)]
 bs := fun x => [[(AV.list 1 x.1 (some 6400000000)), (AV.v (.int .i64 x.2))]]
 ret := fun y => ⟨(AV.v (.int .i64 y.1)), [[(AV.list 1 y.2.1 (some 6400000000)), (AV.v (.int .i64 y.2.2))]], none, [6400000000], [6400000000], [], none⟩
 t := fun x α k => (match (decide (x.2 >= (x.1.length : Int))) with | true => (k (0, x)) | false => (if 0 <= (i64 ((i64 (x.2 + 1)) - 1)) then (match x.1[(i64 ((i64 (x.2 + 1)) - 1)).toNat]? with | some c1 => (match c1[0]? with | some x2 => (match x2 with | .v (.int q4 n3) => (if q4 = .i64 then (k (n3, x.1, (i64 (x.2 + 1)))) else none) | _ => none) | none => none) | none => none) else none))
abbrev zzK (N : Nat) (x : qL × Int) : Option (Int × qL × Int) := (zBa N).d x
def zxx : Nat -> Keep × Keep := anL []
def zDF (N : Nat) : GamK := gam (P := qP) []
def zjN (N : Nat) : FSpec where
 X := Int × Int
 Y := Int
 ash := [[none], [none]]
 S := ⟨[[none]], [], [], [], []⟩
 pat := fun a b => rdA [.int .i64, .int .i64] [] a b fun ⟨a0, a1, _⟩ _ => (a0, a1)
 args := fun x => [(AV.v (.int .i64 x.1)), (AV.v (.int .i64 x.2))]
 ret := fun y => ⟨(AV.v (.int .i64 y)), [], none, [], [], [], none⟩
 t := fun x α k => (match (decide (x.2 < 1)) with | true => (k 0) | false => (if x.2 = 0 then none else (match (decide ((x.1.tmod x.2) < 0)) with | true => (k (i64 ((x.1.tmod x.2) + x.2))) | false => (k (x.1.tmod x.2)))))
abbrev zjV (N : Nat) (x : Int × Int) : Option (Int) := (zjN N).d x
theorem zrE (N : Nat) : Zd (zjN N).t := by
 intro x α β k k' r r' h h1
 revert h
 dsimp only [zjN]
 (repeat' (first | (with_reducible refine ze ?_ ?_) | split)) <;> intro h <;> first | exact h1 _ h | cases h
theorem zup (N : Nat) : Zh (zn qP) (zDF N) zxx (lam N []) Tryd.f21 (zjN N) := fun x => by kernel_rfl
def zzI (N : Nat) : Ent qP := zy (zd qP) (zi _) zl 21 Tryd.f21 Tryd.func21 rfl zxx (lam N []) (zm (l := []) an (by kernel_rfl)) (zjN N) (fun _ => ⟨rfl, rfl⟩) (zup N) (fun _ _ _ h => zu h (fun _ _ => rfl) (fun _ _ => rfl)) (zrE N)
def zEK (N : Nat) : FSpec where
 X := Int × qL × Int
 Y := Int × qL × Int
 ash := [[none], [none]]
 bsh := [[some 2000001, none]]
 S := ⟨[[none]], [[some 2000001, none]], [], [6400000000], []⟩
 pat := fun a b => rdA [.ptr 0 0, .int .i64] [.cells [.tok 1 6400000000, .int .i64]] a b fun ⟨_, a0, _⟩ ⟨⟨a1, a2, _⟩, _⟩ => (a0, a1, a2)
 args := fun x => [(AV.ptr 0 0), (AV.v (.int .i64 x.1))]
 bs := fun x => [[(AV.list 1 x.2.1 (some 6400000000)), (AV.v (.int .i64 x.2.2))]]
 ret := fun y => ⟨(AV.v (.int .i64 y.1)), [[(AV.list 1 y.2.1 (some 6400000000)), (AV.v (.int .i64 y.2.2))]], none, [6400000000], [6400000000], [], none⟩
 t := fun x α k => (match zzK N x.2 with | some y1 => (match zjV N (y1.1, x.1) with | some y2 => (k (y2, y1.2)) | none => none) | none => none)
abbrev zdw (N : Nat) (x : Int × qL × Int) : Option (Int × qL × Int) := (zEK N).d x
abbrev RK8 : List Ck := [.str, .str, .str, .str, .int .i64, .int .i64, .int .i64, .int .i64, .int .i64, .tk 9 6401049152, .int .i64, .int .i64, .int .i64, .int .i64, .int .i64, .int .i64, .int .i64, .int .i64, .int .i64, .int .i64, .int .i64, .int .i64, .int .i64, .int .i64, .int .i64]
abbrev RT8 : Type := ByteArray × ByteArray × ByteArray × ByteArray × Int × Int × Int × Int × Int × qL × Int × Int × Int × Int × Int × Int × Int × Int × Int × Int × Int × Int × Int × Int × Int × Unit
def zzQ (e : RT8) : List AV := enc RK8 e
abbrev RK9 : List Ck := [.str, .str, .str, .str, .int .i64, .int .i64, .int .i64, .int .i64, .int .i64, .tk 9 6401311296, .int .i64, .int .i64, .int .i64, .int .i64, .int .i64, .int .i64, .int .i64, .int .i64, .int .i64, .int .i64, .int .i64, .int .i64, .int .i64, .int .i64, .int .i64]
abbrev RT9 : Type := ByteArray × ByteArray × ByteArray × ByteArray × Int × Int × Int × Int × Int × qL × Int × Int × Int × Int × Int × Int × Int × Int × Int × Int × Int × Int × Int × Int × Int × Unit
def zEI (e : RT9) : List AV := enc RK9 e
def zxh : Nat -> Keep × Keep := anL []
def zDb (N : Nat) : GamK := gam (P := qP) [zzI N]
def zmX (N : Nat) : FSpec where
 X := Int
 Y := RT2
 ash := [[none]]
 S := ⟨[[none, none, none, none]], [], [], [], []⟩
 pat := fun a b => rdA [.int .i64] [] a b fun ⟨a0, _⟩ _ => a0
 args := fun x => [(AV.v (.int .i64 x))]
 ret := fun y => ⟨(AV.agg (zCf y)), [], none, [], [], [], none⟩
 t := fun x α k => (match zjV N (x, 6) with | some y1 => (if 0 <= y1 then (match [[(AV.v (.string (⟨#[83, 49]⟩ : ByteArray)))], [(AV.v (.string (⟨#[83, 50]⟩ : ByteArray)))], [(AV.v (.string (⟨#[83, 51]⟩ : ByteArray)))], [(AV.v (.string (⟨#[83, 52]⟩ : ByteArray)))], [(AV.v (.string (⟨#[83, 53]⟩ : ByteArray)))], [(AV.v (.string (⟨#[83, 54]⟩ : ByteArray)))]][y1.toNat]? with | some c2 => (match c2[0]? with | some x3 => (match x3 with | .v (.string s4) => (k ((⟨#[65, 66]⟩ : ByteArray), s4, (⟨#[48, 48]⟩ : ByteArray), (⟨#[66, 72, 90]⟩ : ByteArray), ())) | _ => none) | none => none) | none => none) else none) | none => none)
abbrev zqh (N : Nat) (x : Int) : Option (RT2) := (zmX N).d x
theorem zvg (N : Nat) : Zd (zmX N).t := by
 intro x α β k k' r r' h h1
 revert h
 dsimp only [zmX]
 (repeat' (first | (with_reducible refine ze ?_ ?_) | split)) <;> intro h <;> first | exact h1 _ h | cases h
theorem zuc (N : Nat) : Zh (zn qP) (zDb N) zxh (lam N []) Tryd.f50 (zmX N) := fun x => by kernel_rfl
def zy9 (N : Nat) : Ent qP := zy (zd qP) (zi _) zl 50 Tryd.f50 Tryd.func50 rfl zxh (lam N []) (zm (l := []) an (by kernel_rfl)) (zmX N) (fun _ => ⟨rfl, rfl⟩) (zuc N) (fun _ _ _ h => zu h (fun _ _ => rfl) (fun _ _ => rfl)) (zvg N)
def zB8 (N : Nat) : FSpec where
 X := Int × qL × Int
 Y := Int × Int × Int × qL × Int
 ash := [[none], [none]]
 bsh := [[some 2000001, none]]
 S := ⟨[[none, none, none]], [[some 2000001, none]], [], [6400000000], []⟩
 pat := fun a b => rdA [.ptr 0 0, .int .i64] [.cells [.tok 1 6400000000, .int .i64]] a b fun ⟨_, a0, _⟩ ⟨⟨a1, a2, _⟩, _⟩ => (a0, a1, a2)
 args := fun x => [(AV.ptr 0 0), (AV.v (.int .i64 x.1))]
 bs := fun x => [[(AV.list 1 x.2.1 (some 6400000000)), (AV.v (.int .i64 x.2.2))]]
 ret := fun y => ⟨(AV.agg [(AV.v (.int .i64 y.1)), (AV.v (.int .i64 y.2.1)), (AV.v (.int .i64 y.2.2.1))]), [[(AV.list 1 y.2.2.2.1 (some 6400000000)), (AV.v (.int .i64 y.2.2.2.2))]], none, [6400000000], [6400000000], [], none⟩
 t := fun x α k => (match zdw N ((i64 ((i64 (2 * x.1)) + 1)), x.2) with | some y1 => (match zdw N ((i64 ((i64 (2 * x.1)) + 1)), y1.2) with | some y2 => (match zdw N ((i64 (x.1 + 1)), y2.2) with | some y3 => (k ((i64 (y1.1 - x.1)), (i64 (y2.1 - x.1)), y3)) | none => none) | none => none) | none => none)
abbrev zqY (N : Nat) (x : Int × qL × Int) : Option (Int × Int × Int × qL × Int) := (zB8 N).d x
def zAt (N : Nat) : FSpec where
 X := qL × qL × Int
 Y := Int × qL × Int
 ash := [[none], [some 1]]
 bsh := [[some 2000001, none]]
 S := ⟨[[none]], [[some 2000001, none]], [], [6400000000], []⟩
 pat := fun a b => rdA [.ptr 0 0, .lst 1] [.cells [.tok 1 6400000000, .int .i64]] a b fun ⟨_, a0, _⟩ ⟨⟨a1, a2, _⟩, _⟩ => (a0, a1, a2)
 args := fun x => [(AV.ptr 0 0), (AV.list 1 x.1 none)]
 bs := fun x => [[(AV.list 1 x.2.1 (some 6400000000)), (AV.v (.int .i64 x.2.2))]]
 ret := fun y => ⟨(AV.v (.int .i64 y.1)), [[(AV.list 1 y.2.1 (some 6400000000)), (AV.v (.int .i64 y.2.2))]], none, [6400000000], [6400000000], [], none⟩
 t := fun x α k => (match zdw N ((x.1.length : Int), x.2) with | some y1 => (if 0 <= y1.1 then (match x.1[y1.1.toNat]? with | some c2 => (match c2[0]? with | some x3 => (match x3 with | .v (.int q5 n4) => (if q5 = .i64 then (k (n4, y1.2)) else none) | _ => none) | none => none) | none => none) else none) | none => none)
abbrev zlf (N : Nat) (x : qL × qL × Int) : Option (Int × qL × Int) := (zAt N).d x
abbrev zDi : List Ck := [.str, .str, .str, .str, .int .i64, .int .i64, .int .i64, .int .i64, .int .i64, .vs 2020489 9, .int .i64, .int .i64, .int .i64, .int .i64, .int .i64, .int .i64, .int .i64, .int .i64, .int .i64, .int .i64, .int .i64, .int .i64, .int .i64, .int .i64, .int .i64]
abbrev zqv : Type := ByteArray × ByteArray × ByteArray × ByteArray × Int × Int × Int × Int × Int × Nat × Int × Int × Int × Int × Int × Int × Int × Int × Int × Int × Int × Int × Int × Int × Int × Unit
def zrB (e : zqv) : List AV := enc zDi e
abbrev RK11 : List Ck := [.str, .str, .str, .str, .int .i64, .int .i64, .int .i64, .int .i64, .int .i64, .vs 1 9, .int .i64, .int .i64, .int .i64, .int .i64, .int .i64, .int .i64, .int .i64, .int .i64, .int .i64, .int .i64, .int .i64, .int .i64, .int .i64, .int .i64, .int .i64]
abbrev zx3 : Type := ByteArray × ByteArray × ByteArray × ByteArray × Int × Int × Int × Int × Int × Nat × Int × Int × Int × Int × Int × Int × Int × Int × Int × Int × Int × Int × Int × Int × Int × Unit
def zAm (e : zx3) : List AV := enc RK11 e
def zmo : Nat -> Keep × Keep := anL [(6, ⟨[0, 1, 4, 5, 6, 7], [], [0, 4, 5], [], [((0, 0), 1), ((4, 9), 9)], [], [((5, 9), 9)], [], false, none, []⟩, ⟨[0, 4, 5, 6], [], [0, 4, 5], [], [((0, 0), 1), ((4, 9), 9)], [], [((5, 9), 9)], [], false, none, []⟩)]
def jn (N : Nat) : LSpec where
 X := Int × Int × Int × qL × Int × RT8 × zqv × qA
 Y := (Int × qL × Int × RT8 × zqv × qA)
 p := fun s => rdS 98 1 [(0, .ptr 0 0), (1, .int .i64), (4, .ptr 4 0), (5, .ptr 5 0), (6, .int .i64), (7, .int .i64)] [(0, .cells [.tok 1 6400000000, .int .i64]), (4, .row RK8), (5, .row zDi), (2020489, .tt)] s fun ⟨_, a0, _, _, a1, a2, _⟩ ⟨⟨a3, a4, _⟩, a5, a6, a7, _⟩ => (a0, a1, a2, a3, a4, a5, a6, a7)
 st := fun u6 => mkS 98 [(0, (AV.ptr 0 0)), (1, (qI u6.1)), (4, (AV.ptr 4 0)), (5, (AV.ptr 5 0)), (6, (qI u6.2.1)), (7, (qI u6.2.2.1))] [(0, [(AV.list 1 u6.2.2.2.1 (some 6400000000)), (qI u6.2.2.2.2.1)]), (4, (zzQ u6.2.2.2.2.2.1)), (5, (zrB u6.2.2.2.2.2.2.1)), (2020489, u6.2.2.2.2.2.2.2)] (zmo 6).1.toks 1
 out := fun y => (.exit 0, mkS 98 [(0, (AV.ptr 0 0)), (4, (AV.ptr 4 0)), (5, (AV.ptr 5 0)), (6, (qI y.1))] [(0, [(AV.list 1 y.2.1 (some 6400000000)), (qI y.2.2.1)]), (4, (zzQ y.2.2.2.1)), (5, (zrB y.2.2.2.2.1)), (2020489, y.2.2.2.2.2)] (zmo 6).2.toks 1)
 b := fun u6 α kn ke => (match zdw N (4, u6.2.2.2.1, u6.2.2.2.2.1) with | some y5 => (match (decide (u6.2.2.1 < (i64 (1 + y5.1)))) with | true => (match zqh N u6.2.2.1 with | some y6 => (match zdw N (3, y5.2) with | some y7 => (if u6.2.2.2.2.2.2.1.2.2.2.2.2.2.2.2.2.1 * 9 <= u6.2.2.2.2.2.2.2.length /\ (u6.2.2.2.2.2.2.1.2.2.2.2.2.2.2.2.2.1 + [(zq (y6.1, y6.2.1, y6.2.2.1, y6.2.2.2.1, (i64 (u6.2.1 + (i64 (10 * u6.1)))), (i64 (u6.2.1 + (i64 (10 * u6.1)))), (i64 ((i64 (u6.2.1 + (i64 (10 * u6.1)))) + y7.1)), u6.1, 0, ()))].length) * 104 <= zh then (kn (u6.1, u6.2.1, (i64 (u6.2.2.1 + 1)), y7.2.1, y7.2.2, u6.2.2.2.2.2.1, (u6.2.2.2.2.2.2.1.1, u6.2.2.2.2.2.2.1.2.1, u6.2.2.2.2.2.2.1.2.2.1, u6.2.2.2.2.2.2.1.2.2.2.1, u6.2.2.2.2.2.2.1.2.2.2.2.1, u6.2.2.2.2.2.2.1.2.2.2.2.2.1, u6.2.2.2.2.2.2.1.2.2.2.2.2.2.1, u6.2.2.2.2.2.2.1.2.2.2.2.2.2.2.1, u6.2.2.2.2.2.2.1.2.2.2.2.2.2.2.2.1, (u6.2.2.2.2.2.2.1.2.2.2.2.2.2.2.2.2.1 + [(zq (y6.1, y6.2.1, y6.2.2.1, y6.2.2.2.1, (i64 (u6.2.1 + (i64 (10 * u6.1)))), (i64 (u6.2.1 + (i64 (10 * u6.1)))), (i64 ((i64 (u6.2.1 + (i64 (10 * u6.1)))) + y7.1)), u6.1, 0, ()))].length), u6.2.2.2.2.2.2.1.2.2.2.2.2.2.2.2.2.2), ((u6.2.2.2.2.2.2.2.take (u6.2.2.2.2.2.2.1.2.2.2.2.2.2.2.2.2.1 * 9) ++ [(zq (y6.1, y6.2.1, y6.2.2.1, y6.2.2.2.1, (i64 (u6.2.1 + (i64 (10 * u6.1)))), (i64 (u6.2.1 + (i64 (10 * u6.1)))), (i64 ((i64 (u6.2.1 + (i64 (10 * u6.1)))) + y7.1)), u6.1, 0, ()))].flatten).map dat0))) else none) | none => none) | none => none) | false => (ke (u6.2.1, y5.2.1, y5.2.2, u6.2.2.2.2.2.1, u6.2.2.2.2.2.2.1, (u6.2.2.2.2.2.2.2.map dat0)))) | none => none)
abbrev zpw (N : Nat) (x : Int × Int × Int × qL × Int × RT8 × zqv × qA) : Option ((Int × qL × Int × RT8 × zqv × qA)) := (jn N).L N x
def zv5 (N : Nat) : FSpec where
 X := Int × qL × Int
 Y := zx3 × qL × Int × qA
 ash := [[none], [none]]
 bsh := [[some 2000001, none]]
 S := ⟨[[none, none, none, none, none, none, none, none, none, some 9, none, none, none, none, none, none, none, none, none, none, none, none, none, none, none]], [[some 2000001, none]], [], [6400000000], []⟩
 bm := true
 pat := fun a b => rdA [.ptr 0 0, .int .i64] [.cells [.tok 1 6400000000, .int .i64]] a b fun ⟨_, a0, _⟩ ⟨⟨a1, a2, _⟩, _⟩ => (a0, a1, a2)
 args := fun x => [(AV.ptr 0 0), (AV.v (.int .i64 x.1))]
 bs := fun x => [[(AV.list 1 x.2.1 (some 6400000000)), (AV.v (.int .i64 x.2.2))]]
 ret := fun y => ⟨(AV.agg (zAm y.1)), [[(AV.list 1 y.2.1 (some 6400000000)), (AV.v (.int .i64 y.2.2.1))]], some y.2.2.2, [6400000000], [6400000000], [], none⟩
 t := fun x α k => (match zdw N (300, x.2) with | some y1 => (match zpw N (x.1, (i64 (1000 + y1.1)), 0, y1.2.1, y1.2.2, ((⟨#[]⟩ : ByteArray), (⟨#[]⟩ : ByteArray), (⟨#[]⟩ : ByteArray), (⟨#[]⟩ : ByteArray), 0, 0, 0, 0, 0, ([] : qL), 0, 0, 0, 0, 0, 0, 0, 0, 0, 0, 0, 0, 0, 0, 0, ()), ((⟨#[]⟩ : ByteArray), (⟨#[]⟩ : ByteArray), (⟨#[]⟩ : ByteArray), (⟨#[]⟩ : ByteArray), 0, 0, 0, 0, 0, 0, 0, 0, 0, 0, 0, 0, 0, 0, 0, 0, 0, 0, 0, 0, 0, ()), ([] : List AV)) with | some y8 => (if 0 <= (0 : Int) /\ (0 : Int) < (y8.2.2.2.2.1.2.2.2.2.2.2.2.2.2.1 : Int) then (match Jv (y8.2.2.2.2.2.drop ((0 + (0 : Int).toNat) * 9)) with | some e9 => (match zqY N (20, y8.2.1, y8.2.2.1) with | some y10 => (match zdw N (40, y10.2.2.2) with | some y11 => (match zlf N ([[(AV.v (.int .i64 0))], [(AV.v (.int .i64 0))], [(AV.v (.int .i64 5))], [(AV.v (.int .i64 500))]], y11.2) with | some y12 => (match zdw N (3, y12.2) with | some y13 => (match (decide (y13.1 > 0)) with | true => (match zdw N (400, y13.2) with | some y14 => (match zdw N (60, y14.2) with | some y15 => (k ((e9.1, e9.2.1, e9.2.2.1, e9.2.2.2.1, e9.2.2.2.2.1, e9.2.2.2.2.2.1, e9.2.2.2.2.2.2.1, e9.2.2.2.2.2.2.2.1, e9.2.2.2.2.2.2.2.2.1, y8.2.2.2.2.1.2.2.2.2.2.2.2.2.2.1, y10.1, y10.2.1, y10.2.2.1, (i64 (y8.1 - y11.1)), y12.1, 0, y10.1, y10.2.1, y10.2.2.1, y10.1, y10.2.1, y10.2.2.1, y14.1, (i64 (y14.1 + y15.1)), y13.1, ()), y15.2.1, y15.2.2, (y8.2.2.2.2.2.map dat0))) | none => none) | none => none) | false => (k ((e9.1, e9.2.1, e9.2.2.1, e9.2.2.2.1, e9.2.2.2.2.1, e9.2.2.2.2.2.1, e9.2.2.2.2.2.2.1, e9.2.2.2.2.2.2.2.1, e9.2.2.2.2.2.2.2.2.1, y8.2.2.2.2.1.2.2.2.2.2.2.2.2.2.1, y10.1, y10.2.1, y10.2.2.1, (i64 (y8.1 - y11.1)), y12.1, 0, y10.1, y10.2.1, y10.2.2.1, y10.1, y10.2.1, y10.2.2.1, y8.2.2.2.2.1.2.2.2.2.2.2.2.2.2.2.2.2.2.2.2.2.2.2.2.2.2.2.1, y8.2.2.2.2.1.2.2.2.2.2.2.2.2.2.2.2.2.2.2.2.2.2.2.2.2.2.2.2.1, y13.1, ()), y13.2.1, y13.2.2, (y8.2.2.2.2.2.map dat0)))) | none => none) | none => none) | none => none) | none => none) | none => none) else none) | none => none) | none => none)
abbrev zpn (N : Nat) (x : Int × qL × Int) : Option (zx3 × qL × Int × qA) := (zv5 N).d x
abbrev zDw : List Ck := [.str, .str, .str, .str, .int .i64, .int .i64, .int .i64, .int .i64, .int .i64, .vs 19 9, .int .i64, .int .i64, .int .i64, .int .i64, .int .i64, .int .i64, .int .i64, .int .i64, .int .i64, .int .i64, .int .i64, .int .i64, .int .i64, .int .i64, .int .i64]
abbrev zqP : Type := ByteArray × ByteArray × ByteArray × ByteArray × Int × Int × Int × Int × Int × Nat × Int × Int × Int × Int × Int × Int × Int × Int × Int × Int × Int × Int × Int × Int × Int × Unit
def zrM (e : zqP) : List AV := enc zDw e
def zul : Nat -> Keep × Keep := anF [(5, ⟨[0, 1, 6], [], [0], [], [((0, 0), 1)], [(5, 25)], [], [], false, none, []⟩, ⟨[], [], [0], [], [((0, 0), 1)], [(5, 25)], [], [], false, none, []⟩), (18, ⟨[0, 1, 5, 6, 7, 23, 24], [], [0, 7, 19, 1000005], [], [((0, 0), 1)], [], [], [19, 1000005], false, none, []⟩, ⟨[0, 1, 5, 6, 7], [], [0, 7, 19, 1000005], [], [((0, 0), 1)], [], [], [19, 1000005], false, none, []⟩)] [(100015, ([], [((7, 9), 9)])), (100016, ([5], []))]
def zan (N : Nat) : LSpec where
 X := Int × Nat × Int × Int × Int × qL × Int × zqP × qA × qA
 Y := (Int × Nat × Int × qL × Int × zqP × qA × qA)
 p := fun s => rdS 86 1 [(0, .ptr 0 0), (1, .int .i64), (5, .vs0 1000005 25), (6, .int .i64), (7, .ptr 7 0), (23, .int .i64), (24, .int .i64)] [(0, .cells [.tok 1 6400000000, .int .i64]), (7, .row zDw), (19, .tt), (1000005, .tt)] s fun ⟨_, a0, a1, a2, _, a3, a4, _⟩ ⟨⟨a5, a6, _⟩, a7, a8, a9, _⟩ => (a0, a1, a2, a3, a4, a5, a6, a7, a8, a9)
 st := fun u18 => mkS 86 [(0, (AV.ptr 0 0)), (1, (qI u18.1)), (5, (AV.vs 1000005 0 u18.2.1 25)), (6, (qI u18.2.2.1)), (7, (AV.ptr 7 0)), (23, (qI u18.2.2.2.1)), (24, (qI u18.2.2.2.2.1))] [(0, [(AV.list 1 u18.2.2.2.2.2.1 (some 6400000000)), (qI u18.2.2.2.2.2.2.1)]), (7, (zrM u18.2.2.2.2.2.2.2.1)), (19, u18.2.2.2.2.2.2.2.2.1), (1000005, u18.2.2.2.2.2.2.2.2.2)] (zul 18).1.toks 1
 out := fun y => (.exit 2, mkS 86 [(0, (AV.ptr 0 0)), (1, (qI y.1)), (5, (AV.vs 1000005 0 y.2.1 25)), (6, (qI y.2.2.1)), (7, (AV.ptr 7 0))] [(0, [(AV.list 1 y.2.2.2.1 (some 6400000000)), (qI y.2.2.2.2.1)]), (7, (zrM y.2.2.2.2.2.1)), (19, y.2.2.2.2.2.2.1), (1000005, y.2.2.2.2.2.2.2)] (zul 18).2.toks 1)
 b := fun u18 α kn ke => (match (decide (u18.2.2.2.2.1 < u18.2.2.2.1)) with | true => (if 0 <= u18.2.2.2.2.1 /\ u18.2.2.2.2.1 < (u18.2.2.2.2.2.2.2.1.2.2.2.2.2.2.2.2.2.1 : Int) then (if (((0 + u18.2.2.2.2.1.toNat) * 9) + 4) + 1 <= u18.2.2.2.2.2.2.2.2.1.length then (if (((0 + u18.2.2.2.2.1.toNat) * 9) + 5) + 1 <= (splice u18.2.2.2.2.2.2.2.2.1 (((0 + u18.2.2.2.2.1.toNat) * 9) + 4) [(AV.v (.int .i64 (i64 ((i64 (1000 + (i64 (400 * u18.2.2.1)))) + u18.2.2.2.2.1))))]).length then (if (((0 + u18.2.2.2.2.1.toNat) * 9) + 6) + 1 <= (splice (splice u18.2.2.2.2.2.2.2.2.1 (((0 + u18.2.2.2.2.1.toNat) * 9) + 4) [(AV.v (.int .i64 (i64 ((i64 (1000 + (i64 (400 * u18.2.2.1)))) + u18.2.2.2.2.1))))]) (((0 + u18.2.2.2.2.1.toNat) * 9) + 5) [(AV.v (.int .i64 (i64 ((i64 (1000 + (i64 (400 * u18.2.2.1)))) + u18.2.2.2.2.1))))]).length then (if (((0 + u18.2.2.2.2.1.toNat) * 9) + 7) + 1 <= (splice (splice (splice u18.2.2.2.2.2.2.2.2.1 (((0 + u18.2.2.2.2.1.toNat) * 9) + 4) [(AV.v (.int .i64 (i64 ((i64 (1000 + (i64 (400 * u18.2.2.1)))) + u18.2.2.2.2.1))))]) (((0 + u18.2.2.2.2.1.toNat) * 9) + 5) [(AV.v (.int .i64 (i64 ((i64 (1000 + (i64 (400 * u18.2.2.1)))) + u18.2.2.2.2.1))))]) (((0 + u18.2.2.2.2.1.toNat) * 9) + 6) [(AV.v (.int .i64 (i64 ((i64 ((i64 (1000 + (i64 (400 * u18.2.2.1)))) + u18.2.2.2.2.1)) + 2))))]).length then (kn (u18.1, u18.2.1, u18.2.2.1, u18.2.2.2.1, (i64 (u18.2.2.2.2.1 + 1)), u18.2.2.2.2.2.1, u18.2.2.2.2.2.2.1, u18.2.2.2.2.2.2.2.1, ((splice (splice (splice (splice u18.2.2.2.2.2.2.2.2.1 (((0 + u18.2.2.2.2.1.toNat) * 9) + 4) [(AV.v (.int .i64 (i64 ((i64 (1000 + (i64 (400 * u18.2.2.1)))) + u18.2.2.2.2.1))))]) (((0 + u18.2.2.2.2.1.toNat) * 9) + 5) [(AV.v (.int .i64 (i64 ((i64 (1000 + (i64 (400 * u18.2.2.1)))) + u18.2.2.2.2.1))))]) (((0 + u18.2.2.2.2.1.toNat) * 9) + 6) [(AV.v (.int .i64 (i64 ((i64 ((i64 (1000 + (i64 (400 * u18.2.2.1)))) + u18.2.2.2.2.1)) + 2))))]) (((0 + u18.2.2.2.2.1.toNat) * 9) + 7) [(AV.v (.int .i64 7))]).map dat0), (u18.2.2.2.2.2.2.2.2.2.map dat0))) else none) else none) else none) else none) else none) | false => (ke (u18.1, u18.2.1, u18.2.2.1, u18.2.2.2.2.2.1, u18.2.2.2.2.2.2.1, u18.2.2.2.2.2.2.2.1, (u18.2.2.2.2.2.2.2.2.1.map dat0), (u18.2.2.2.2.2.2.2.2.2.map dat0))))
abbrev zB4 (N : Nat) (x : Int × Nat × Int × Int × Int × qL × Int × zqP × qA × qA) : Option ((Int × Nat × Int × qL × Int × zqP × qA × qA)) := (zan N).L N x
def za1 (N : Nat) : LSpec where
 X := Nat × Int × Int × qL × Int × qA
 Y := (Nat × qL × Int × qA)
 p := fun s => rdS 86 1 [(5, .vs0 1000005 25), (0, .ptr 0 0), (1, .int .i64), (6, .int .i64)] [(0, .cells [.tok 1 6400000000, .int .i64]), (1000005, .tt)] s fun ⟨a0, _, a1, a2, _⟩ ⟨⟨a3, a4, _⟩, a5, _⟩ => (a0, a1, a2, a3, a4, a5)
 st := fun u5 => mkS 86 [(5, (AV.vs 1000005 0 u5.1 25)), (0, (AV.ptr 0 0)), (1, (qI u5.2.1)), (6, (qI u5.2.2.1))] [(0, [(AV.list 1 u5.2.2.2.1 (some 6400000000)), (qI u5.2.2.2.2.1)]), (1000005, u5.2.2.2.2.2)] (zul 5).1.toks 1
 out := fun y => (.exit 0, mkS 86 [(5, (AV.vs 1000005 0 y.1 25))] [(0, [(AV.list 1 y.2.1 (some 6400000000)), (qI y.2.2.1)]), (1000005, y.2.2.2)] (zul 5).2.toks 1)
 b := fun u5 α kn ke => (match (decide (u5.2.2.1 < u5.2.1)) with | true => (match zdw N (3, u5.2.2.2.1, u5.2.2.2.2.1) with | some y6 => (match (y6.1 == 0) with | true => (kn (u5.1, u5.2.1, (i64 (u5.2.2.1 + 1)), y6.2.1, y6.2.2, (u5.2.2.2.2.2.map dat0))) | false => (match zpn N (1, y6.2) with | some y7 => (match zB4 N (u5.2.1, u5.1, u5.2.2.1, ((y7.1.2.2.2.2.2.2.2.2.2.1 : Nat) : Int), 0, y7.2.1, y7.2.2.1, y7.1, ((y7.2.2.2.map dat0).map dat0), (u5.2.2.2.2.2.map dat0)) with | some y8 => (match zdw N (2, y8.2.2.2.1, y8.2.2.2.2.1) with | some y9 => (if 0 <= (if (i64 (((y8.2.2.2.2.2.1.2.2.2.2.2.2.2.2.2.1 : Nat) : Int) - 1)) < y9.1 then (i64 (((y8.2.2.2.2.2.1.2.2.2.2.2.2.2.2.2.1 : Nat) : Int) - 1)) else y9.1) /\ (if (i64 (((y8.2.2.2.2.2.1.2.2.2.2.2.2.2.2.2.1 : Nat) : Int) - 1)) < y9.1 then (i64 (((y8.2.2.2.2.2.1.2.2.2.2.2.2.2.2.2.1 : Nat) : Int) - 1)) else y9.1) <= (y8.2.2.2.2.2.1.2.2.2.2.2.2.2.2.2.1 : Int) then (if 0 <= (0 : Int) /\ (0 : Int) < (((y8.2.2.2.2.2.1.2.2.2.2.2.2.2.2.2.1 - (if (i64 (((y8.2.2.2.2.2.1.2.2.2.2.2.2.2.2.2.1 : Nat) : Int) - 1)) < y9.1 then (i64 (((y8.2.2.2.2.2.1.2.2.2.2.2.2.2.2.2.1 : Nat) : Int) - 1)) else y9.1).toNat) : Nat) : Int) then (match Jv (y8.2.2.2.2.2.2.1.drop (((0 + (if (i64 (((y8.2.2.2.2.2.1.2.2.2.2.2.2.2.2.2.1 : Nat) : Int) - 1)) < y9.1 then (i64 (((y8.2.2.2.2.2.1.2.2.2.2.2.2.2.2.2.1 : Nat) : Int) - 1)) else y9.1).toNat) + (0 : Int).toNat) * 9)) with | some e10 => (if (y8.2.2.2.2.2.1.2.2.2.2.2.2.2.2.2.1 - (if (i64 (((y8.2.2.2.2.2.1.2.2.2.2.2.2.2.2.2.1 : Nat) : Int) - 1)) < y9.1 then (i64 (((y8.2.2.2.2.2.1.2.2.2.2.2.2.2.2.2.1 : Nat) : Int) - 1)) else y9.1).toNat) * 9 <= (JW (0 + (if (i64 (((y8.2.2.2.2.2.1.2.2.2.2.2.2.2.2.2.1 : Nat) : Int) - 1)) < y9.1 then (i64 (((y8.2.2.2.2.2.1.2.2.2.2.2.2.2.2.2.1 : Nat) : Int) - 1)) else y9.1).toNat) 9 y8.2.2.2.2.2.2.1).length then (if y8.2.1 * 25 <= y8.2.2.2.2.2.2.2.length /\ (y8.2.1 + [(zB (e10.1, e10.2.1, e10.2.2.1, e10.2.2.2.1, e10.2.2.2.2.1, e10.2.2.2.2.2.1, e10.2.2.2.2.2.2.1, e10.2.2.2.2.2.2.2.1, e10.2.2.2.2.2.2.2.2.1, (zK ((JW (0 + (if (i64 (((y8.2.2.2.2.2.1.2.2.2.2.2.2.2.2.2.1 : Nat) : Int) - 1)) < y9.1 then (i64 (((y8.2.2.2.2.2.1.2.2.2.2.2.2.2.2.2.1 : Nat) : Int) - 1)) else y9.1).toNat) 9 y8.2.2.2.2.2.2.1).take ((y8.2.2.2.2.2.1.2.2.2.2.2.2.2.2.2.1 - (if (i64 (((y8.2.2.2.2.2.1.2.2.2.2.2.2.2.2.2.1 : Nat) : Int) - 1)) < y9.1 then (i64 (((y8.2.2.2.2.2.1.2.2.2.2.2.2.2.2.2.1 : Nat) : Int) - 1)) else y9.1).toNat) * 9)) 9 (y8.2.2.2.2.2.1.2.2.2.2.2.2.2.2.2.1 - (if (i64 (((y8.2.2.2.2.2.1.2.2.2.2.2.2.2.2.2.1 : Nat) : Int) - 1)) < y9.1 then (i64 (((y8.2.2.2.2.2.1.2.2.2.2.2.2.2.2.2.1 : Nat) : Int) - 1)) else y9.1).toNat)), y8.2.2.2.2.2.1.2.2.2.2.2.2.2.2.2.2))].length) * 248 <= zh then (kn ((y8.2.1 + [(zB (e10.1, e10.2.1, e10.2.2.1, e10.2.2.2.1, e10.2.2.2.2.1, e10.2.2.2.2.2.1, e10.2.2.2.2.2.2.1, e10.2.2.2.2.2.2.2.1, e10.2.2.2.2.2.2.2.2.1, (zK ((JW (0 + (if (i64 (((y8.2.2.2.2.2.1.2.2.2.2.2.2.2.2.2.1 : Nat) : Int) - 1)) < y9.1 then (i64 (((y8.2.2.2.2.2.1.2.2.2.2.2.2.2.2.2.1 : Nat) : Int) - 1)) else y9.1).toNat) 9 y8.2.2.2.2.2.2.1).take ((y8.2.2.2.2.2.1.2.2.2.2.2.2.2.2.2.1 - (if (i64 (((y8.2.2.2.2.2.1.2.2.2.2.2.2.2.2.2.1 : Nat) : Int) - 1)) < y9.1 then (i64 (((y8.2.2.2.2.2.1.2.2.2.2.2.2.2.2.2.1 : Nat) : Int) - 1)) else y9.1).toNat) * 9)) 9 (y8.2.2.2.2.2.1.2.2.2.2.2.2.2.2.2.1 - (if (i64 (((y8.2.2.2.2.2.1.2.2.2.2.2.2.2.2.2.1 : Nat) : Int) - 1)) < y9.1 then (i64 (((y8.2.2.2.2.2.1.2.2.2.2.2.2.2.2.2.1 : Nat) : Int) - 1)) else y9.1).toNat)), y8.2.2.2.2.2.1.2.2.2.2.2.2.2.2.2.2))].length), y8.1, (i64 (y8.2.2.1 + 1)), y9.2.1, y9.2.2, ((y8.2.2.2.2.2.2.2.take (y8.2.1 * 25) ++ [(zB (e10.1, e10.2.1, e10.2.2.1, e10.2.2.2.1, e10.2.2.2.2.1, e10.2.2.2.2.2.1, e10.2.2.2.2.2.2.1, e10.2.2.2.2.2.2.2.1, e10.2.2.2.2.2.2.2.2.1, (zK ((JW (0 + (if (i64 (((y8.2.2.2.2.2.1.2.2.2.2.2.2.2.2.2.1 : Nat) : Int) - 1)) < y9.1 then (i64 (((y8.2.2.2.2.2.1.2.2.2.2.2.2.2.2.2.1 : Nat) : Int) - 1)) else y9.1).toNat) 9 y8.2.2.2.2.2.2.1).take ((y8.2.2.2.2.2.1.2.2.2.2.2.2.2.2.2.1 - (if (i64 (((y8.2.2.2.2.2.1.2.2.2.2.2.2.2.2.2.1 : Nat) : Int) - 1)) < y9.1 then (i64 (((y8.2.2.2.2.2.1.2.2.2.2.2.2.2.2.2.1 : Nat) : Int) - 1)) else y9.1).toNat) * 9)) 9 (y8.2.2.2.2.2.1.2.2.2.2.2.2.2.2.2.1 - (if (i64 (((y8.2.2.2.2.2.1.2.2.2.2.2.2.2.2.2.1 : Nat) : Int) - 1)) < y9.1 then (i64 (((y8.2.2.2.2.2.1.2.2.2.2.2.2.2.2.2.1 : Nat) : Int) - 1)) else y9.1).toNat)), y8.2.2.2.2.2.1.2.2.2.2.2.2.2.2.2.2))].flatten).map dat0))) else none) else none) | none => none) else none) else none) | none => none) | none => none) | none => none)) | none => none) | false => (ke (u5.1, u5.2.2.2.1, u5.2.2.2.2.1, (u5.2.2.2.2.2.map dat0))))
abbrev zAK (N : Nat) (x : Nat × Int × Int × qL × Int × qA) : Option ((Nat × qL × Int × qA)) := (za1 N).L N x
def zEM (N : Nat) : FSpec where
 X := Int × qL × Int
 Y := qL × qL × Int
 ash := [[none], [none]]
 bsh := [[some 2000001, none]]
 S := ⟨[[some 2000025]], [[some 2000001, none]], [], [6400000000], []⟩
 pat := fun a b => rdA [.ptr 0 0, .int .i64] [.cells [.tok 1 6400000000, .int .i64]] a b fun ⟨_, a0, _⟩ ⟨⟨a1, a2, _⟩, _⟩ => (a0, a1, a2)
 args := fun x => [(AV.ptr 0 0), (AV.v (.int .i64 x.1))]
 bs := fun x => [[(AV.list 1 x.2.1 (some 6400000000)), (AV.v (.int .i64 x.2.2))]]
 ret := fun y => ⟨(AV.list 25 y.1 (some 2560000000)), [[(AV.list 1 y.2.1 (some 6400000000)), (AV.v (.int .i64 y.2.2))]], none, [6400000000], [6400000000, 2560000000], [], none⟩
 t := fun x α k => (match zAK N (0, x.1, 0, x.2.1, x.2.2, ([] : List AV)) with | some y11 => (if y11.1 * 25 <= y11.2.2.2.length then (k ((zK (y11.2.2.2.take (y11.1 * 25)) 25 y11.1), y11.2.1, y11.2.2.1)) else none) | none => none)
abbrev zwf (N : Nat) (x : Int × qL × Int) : Option (qL × qL × Int) := (zEM N).d x
def zyt (N : Nat) : FSpec where
 X := qL × qL × Int
 Y := ByteArray × qL × Int
 ash := [[none], [some 1]]
 bsh := [[some 2000001, none]]
 S := ⟨[[none]], [[some 2000001, none]], [], [6400000000], []⟩
 pat := fun a b => rdA [.ptr 0 0, .lst 1] [.cells [.tok 1 6400000000, .int .i64]] a b fun ⟨_, a0, _⟩ ⟨⟨a1, a2, _⟩, _⟩ => (a0, a1, a2)
 args := fun x => [(AV.ptr 0 0), (AV.list 1 x.1 none)]
 bs := fun x => [[(AV.list 1 x.2.1 (some 6400000000)), (AV.v (.int .i64 x.2.2))]]
 ret := fun y => ⟨(AV.v (.string y.1)), [[(AV.list 1 y.2.1 (some 6400000000)), (AV.v (.int .i64 y.2.2))]], none, [6400000000], [6400000000], [], none⟩
 t := fun x α k => (match zdw N ((x.1.length : Int), x.2) with | some y1 => (if 0 <= y1.1 then (match x.1[y1.1.toNat]? with | some c2 => (match c2[0]? with | some x3 => (match x3 with | .v (.string s4) => (k (s4, y1.2)) | _ => none) | none => none) | none => none) else none) | none => none)
abbrev zhu (N : Nat) (x : qL × qL × Int) : Option (ByteArray × qL × Int) := (zyt N).d x
def zvV : Nat -> Keep × Keep := anL []
def zDM (N : Nat) : GamK := gam (P := qP) [zvD N]
def zfD (N : Nat) : FSpec where
 X := qL × Int × ByteArray × RT0 × Int
 Y := qL × Int
 ash := [[some 1], [none], [none], [none, none, none, none, none, none, none, none, none, some 9, none, none, none, none, none, none, none, none, none, none, none, none, none, none, none], [none]]
 S := ⟨[[some 1], [none]], [], [], [], []⟩
 pat := fun a b => zk a fun v1 c2 => jg v1 fun c3 => zk c3 fun c4 c5 => Z3 1 c4 fun a0 => zQ c5 <| zk c2 fun v6 c7 => jQ .i64 v6 fun a1 => zk c7 fun v8 c9 => zlT v8 fun a2 => zk c9 fun v10 c11 => zwv RK0 v10 fun a3 => zk c11 fun v12 c13 => jQ .i64 v12 fun a4 => zQ c13 <| zQ b <| some (a0, a1, a2, a3, a4)
 args := fun x => [(AV.agg [(AV.list 1 x.1 none)]), (AV.v (.int .i64 x.2.1)), (AV.v (.string x.2.2.1)), (AV.agg (zB x.2.2.2.1)), (AV.v (.int .i64 x.2.2.2.2))]
 ret := fun y => ⟨(AV.tup [(AV.agg [(AV.list 1 y.1 none)]), (AV.v (.int .i64 y.2))]), [], none, [], [], [], none⟩
 t := fun x α k => (match zd7 N (x.1, x.2.1, (3, x.2.2.2.2, x.2.2.1, 0, x.2.2.2.1.1, x.2.2.2.1.2.1, x.2.2.2.1.2.2.1, x.2.2.2.1.2.2.2.1, x.2.2.2.1.2.2.2.2.1, x.2.2.2.1.2.2.2.2.2.1, x.2.2.2.1.2.2.2.2.2.2.1, x.2.2.2.1.2.2.2.2.2.2.2.1, x.2.2.2.1.2.2.2.2.2.2.2.2.1, x.2.2.2.1.2.2.2.2.2.2.2.2.2.1, x.2.2.2.1.2.2.2.2.2.2.2.2.2.2.1, x.2.2.2.1.2.2.2.2.2.2.2.2.2.2.2.1, x.2.2.2.1.2.2.2.2.2.2.2.2.2.2.2.2.1, x.2.2.2.1.2.2.2.2.2.2.2.2.2.2.2.2.2.1, x.2.2.2.1.2.2.2.2.2.2.2.2.2.2.2.2.2.2.1, x.2.2.2.1.2.2.2.2.2.2.2.2.2.2.2.2.2.2.2.1, x.2.2.2.1.2.2.2.2.2.2.2.2.2.2.2.2.2.2.2.2.1, x.2.2.2.1.2.2.2.2.2.2.2.2.2.2.2.2.2.2.2.2.2.1, x.2.2.2.1.2.2.2.2.2.2.2.2.2.2.2.2.2.2.2.2.2.2.1, x.2.2.2.1.2.2.2.2.2.2.2.2.2.2.2.2.2.2.2.2.2.2.2.1, x.2.2.2.1.2.2.2.2.2.2.2.2.2.2.2.2.2.2.2.2.2.2.2.2.1, x.2.2.2.1.2.2.2.2.2.2.2.2.2.2.2.2.2.2.2.2.2.2.2.2.2.1, x.2.2.2.1.2.2.2.2.2.2.2.2.2.2.2.2.2.2.2.2.2.2.2.2.2.2.1, x.2.2.2.1.2.2.2.2.2.2.2.2.2.2.2.2.2.2.2.2.2.2.2.2.2.2.2.1, x.2.2.2.1.2.2.2.2.2.2.2.2.2.2.2.2.2.2.2.2.2.2.2.2.2.2.2.2.1, ())) with | some y1 => (k y1) | none => none)
abbrev zyS (N : Nat) (x : qL × Int × ByteArray × RT0 × Int) : Option (qL × Int) := (zfD N).d x
theorem ztt (N : Nat) : Zd (zfD N).t := by
 intro x α β k k' r r' h h1
 revert h
 dsimp only [zfD]
 (repeat' (first | (with_reducible refine ze ?_ ?_) | split)) <;> intro h <;> first | exact h1 _ h | cases h
theorem ztQ (N : Nat) : Zh (zn qP) (zDM N) zvV (lam N []) Tryd.f26 (zfD N) := fun x => by kernel_rfl
theorem zzb (N : Nat) (a : List AV) (b : qL) (x : (zfD N).X) (h : (zfD N).pat a b = some x) : a = (zfD N).args x /\ b = (zfD N).bs x := by
 obtain ⟨v1, c2, rfl, g0⟩ := zb (show zk _ _ = some x from h)
 obtain ⟨c3, rfl, g1⟩ := zR g0; clear g0
 obtain ⟨c4, c5, rfl, g2⟩ := zb g1; clear g1
 obtain ⟨a0, rfl, g3⟩ := zr g2; clear g2
 obtain ⟨rfl, g4⟩ := zg g3; clear g3
 obtain ⟨v6, c7, rfl, g5⟩ := zb g4; clear g4
 obtain ⟨a1, rfl, g6⟩ := zC g5; clear g5
 obtain ⟨v8, c9, rfl, g7⟩ := zb g6; clear g6
 obtain ⟨a2, rfl, g8⟩ := JJ g7; clear g7
 obtain ⟨v10, c11, rfl, g9⟩ := zb g8; clear g8
 obtain ⟨a3, rfl, g10⟩ := zcM g9; clear g9
 obtain ⟨v12, c13, rfl, g11⟩ := zb g10; clear g10
 obtain ⟨a4, rfl, g12⟩ := zC g11; clear g11
 obtain ⟨rfl, g13⟩ := zg g12; clear g12
 obtain ⟨rfl, g14⟩ := zg g13; clear g13
 clear h
 cases g14
 exact ⟨rfl, rfl⟩
def zCH (N : Nat) : Ent qP := zy (zd qP) (zi _) zl 26 Tryd.f26 Tryd.func26 rfl zvV (lam N []) (zm (l := []) an (by kernel_rfl)) (zfD N) (fun _ => ⟨rfl, rfl⟩) (ztQ N) (zzb N) (ztt N)
def zxu : Nat -> Keep × Keep := anL []
def zC7 (N : Nat) : GamK := gam (P := qP) [zvD N]
def zfN (N : Nat) : FSpec where
 X := qL × Int × ByteArray × Int
 Y := qL × Int
 ash := [[some 1], [none], [none], [none]]
 S := ⟨[[some 1], [none]], [], [], [], []⟩
 pat := fun a b => zk a fun v1 c2 => jg v1 fun c3 => zk c3 fun c4 c5 => Z3 1 c4 fun a0 => zQ c5 <| zk c2 fun v6 c7 => jQ .i64 v6 fun a1 => zk c7 fun v8 c9 => zlT v8 fun a2 => zk c9 fun v10 c11 => jQ .i64 v10 fun a3 => zQ c11 <| zQ b <| some (a0, a1, a2, a3)
 args := fun x => [(AV.agg [(AV.list 1 x.1 none)]), (AV.v (.int .i64 x.2.1)), (AV.v (.string x.2.2.1)), (AV.v (.int .i64 x.2.2.2))]
 ret := fun y => ⟨(AV.tup [(AV.agg [(AV.list 1 y.1 none)]), (AV.v (.int .i64 y.2))]), [], none, [], [], [], none⟩
 t := fun x α k => (match zd7 N (x.1, x.2.1, (4, x.2.2.2, x.2.2.1, 0, (⟨#[]⟩ : ByteArray), (⟨#[]⟩ : ByteArray), (⟨#[]⟩ : ByteArray), (⟨#[]⟩ : ByteArray), 0, 0, 0, 0, 0, ([] : qL), 0, 0, 0, 0, 0, 0, 0, 0, 0, 0, 0, 0, 0, 0, 0, ())) with | some y1 => (k y1) | none => none)
abbrev zyY (N : Nat) (x : qL × Int × ByteArray × Int) : Option (qL × Int) := (zfN N).d x
theorem zrI (N : Nat) : Zd (zfN N).t := by
 intro x α β k k' r r' h h1
 revert h
 dsimp only [zfN]
 (repeat' (first | (with_reducible refine ze ?_ ?_) | split)) <;> intro h <;> first | exact h1 _ h | cases h
theorem zsU (N : Nat) : Zh (zn qP) (zC7 N) zxu (lam N []) Tryd.f28 (zfN N) := fun x => by kernel_rfl
theorem zyy (N : Nat) (a : List AV) (b : qL) (x : (zfN N).X) (h : (zfN N).pat a b = some x) : a = (zfN N).args x /\ b = (zfN N).bs x := by
 obtain ⟨v1, c2, rfl, g0⟩ := zb (show zk _ _ = some x from h)
 obtain ⟨c3, rfl, g1⟩ := zR g0; clear g0
 obtain ⟨c4, c5, rfl, g2⟩ := zb g1; clear g1
 obtain ⟨a0, rfl, g3⟩ := zr g2; clear g2
 obtain ⟨rfl, g4⟩ := zg g3; clear g3
 obtain ⟨v6, c7, rfl, g5⟩ := zb g4; clear g4
 obtain ⟨a1, rfl, g6⟩ := zC g5; clear g5
 obtain ⟨v8, c9, rfl, g7⟩ := zb g6; clear g6
 obtain ⟨a2, rfl, g8⟩ := JJ g7; clear g7
 obtain ⟨v10, c11, rfl, g9⟩ := zb g8; clear g8
 obtain ⟨a3, rfl, g10⟩ := zC g9; clear g9
 obtain ⟨rfl, g11⟩ := zg g10; clear g10
 obtain ⟨rfl, g12⟩ := zg g11; clear g11
 clear h
 cases g12
 exact ⟨rfl, rfl⟩
def zDT (N : Nat) : Ent qP := zy (zd qP) (zi _) zl 28 Tryd.f28 Tryd.func28 rfl zxu (lam N []) (zm (l := []) an (by kernel_rfl)) (zfN N) (fun _ => ⟨rfl, rfl⟩) (zsU N) (zyy N) (zrI N)
def zwP : Nat -> Keep × Keep := anL []
def zD3 (N : Nat) : GamK := gam (P := qP) [zvD N]
def zfB (N : Nat) : FSpec where
 X := qL × Int × Int × ByteArray × Int
 Y := qL × Int
 ash := [[some 1], [none], [none], [none], [none]]
 S := ⟨[[some 1], [none]], [], [], [], []⟩
 pat := fun a b => zk a fun v1 c2 => jg v1 fun c3 => zk c3 fun c4 c5 => Z3 1 c4 fun a0 => zQ c5 <| zk c2 fun v6 c7 => jQ .i64 v6 fun a1 => zk c7 fun v8 c9 => jQ .i64 v8 fun a2 => zk c9 fun v10 c11 => zlT v10 fun a3 => zk c11 fun v12 c13 => jQ .i64 v12 fun a4 => zQ c13 <| zQ b <| some (a0, a1, a2, a3, a4)
 args := fun x => [(AV.agg [(AV.list 1 x.1 none)]), (AV.v (.int .i64 x.2.1)), (AV.v (.int .i64 x.2.2.1)), (AV.v (.string x.2.2.2.1)), (AV.v (.int .i64 x.2.2.2.2))]
 ret := fun y => ⟨(AV.tup [(AV.agg [(AV.list 1 y.1 none)]), (AV.v (.int .i64 y.2))]), [], none, [], [], [], none⟩
 t := fun x α k => (match zd7 N (x.1, x.2.1, (5, x.2.2.2.2, x.2.2.2.1, x.2.2.1, (⟨#[]⟩ : ByteArray), (⟨#[]⟩ : ByteArray), (⟨#[]⟩ : ByteArray), (⟨#[]⟩ : ByteArray), 0, 0, 0, 0, 0, ([] : qL), 0, 0, 0, 0, 0, 0, 0, 0, 0, 0, 0, 0, 0, 0, 0, ())) with | some y1 => (k y1) | none => none)
abbrev zzP (N : Nat) (x : qL × Int × Int × ByteArray × Int) : Option (qL × Int) := (zfB N).d x
theorem zu9 (N : Nat) : Zd (zfB N).t := by
 intro x α β k k' r r' h h1
 revert h
 dsimp only [zfB]
 (repeat' (first | (with_reducible refine ze ?_ ?_) | split)) <;> intro h <;> first | exact h1 _ h | cases h
theorem zux (N : Nat) : Zh (zn qP) (zD3 N) zwP (lam N []) Tryd.f29 (zfB N) := fun x => by kernel_rfl
theorem zze (N : Nat) (a : List AV) (b : qL) (x : (zfB N).X) (h : (zfB N).pat a b = some x) : a = (zfB N).args x /\ b = (zfB N).bs x := by
 obtain ⟨v1, c2, rfl, g0⟩ := zb (show zk _ _ = some x from h)
 obtain ⟨c3, rfl, g1⟩ := zR g0; clear g0
 obtain ⟨c4, c5, rfl, g2⟩ := zb g1; clear g1
 obtain ⟨a0, rfl, g3⟩ := zr g2; clear g2
 obtain ⟨rfl, g4⟩ := zg g3; clear g3
 obtain ⟨v6, c7, rfl, g5⟩ := zb g4; clear g4
 obtain ⟨a1, rfl, g6⟩ := zC g5; clear g5
 obtain ⟨v8, c9, rfl, g7⟩ := zb g6; clear g6
 obtain ⟨a2, rfl, g8⟩ := zC g7; clear g7
 obtain ⟨v10, c11, rfl, g9⟩ := zb g8; clear g8
 obtain ⟨a3, rfl, g10⟩ := JJ g9; clear g9
 obtain ⟨v12, c13, rfl, g11⟩ := zb g10; clear g10
 obtain ⟨a4, rfl, g12⟩ := zC g11; clear g11
 obtain ⟨rfl, g13⟩ := zg g12; clear g12
 obtain ⟨rfl, g14⟩ := zg g13; clear g13
 clear h
 cases g14
 exact ⟨rfl, rfl⟩
def zCY (N : Nat) : Ent qP := zy (zd qP) (zi _) zl 29 Tryd.f29 Tryd.func29 rfl zwP (lam N []) (zm (l := []) an (by kernel_rfl)) (zfB N) (fun _ => ⟨rfl, rfl⟩) (zux N) (zze N) (zu9 N)
def zvU : Nat -> Keep × Keep := anL []
def zDK (N : Nat) : GamK := gam (P := qP) [zvD N]
def zfF (N : Nat) : FSpec where
 X := qL × Int × ByteArray × Int
 Y := qL × Int
 ash := [[some 1], [none], [none], [none]]
 S := ⟨[[some 1], [none]], [], [], [], []⟩
 pat := fun a b => zk a fun v1 c2 => jg v1 fun c3 => zk c3 fun c4 c5 => Z3 1 c4 fun a0 => zQ c5 <| zk c2 fun v6 c7 => jQ .i64 v6 fun a1 => zk c7 fun v8 c9 => zlT v8 fun a2 => zk c9 fun v10 c11 => jQ .i64 v10 fun a3 => zQ c11 <| zQ b <| some (a0, a1, a2, a3)
 args := fun x => [(AV.agg [(AV.list 1 x.1 none)]), (AV.v (.int .i64 x.2.1)), (AV.v (.string x.2.2.1)), (AV.v (.int .i64 x.2.2.2))]
 ret := fun y => ⟨(AV.tup [(AV.agg [(AV.list 1 y.1 none)]), (AV.v (.int .i64 y.2))]), [], none, [], [], [], none⟩
 t := fun x α k => (match zd7 N (x.1, x.2.1, (6, x.2.2.2, x.2.2.1, 0, (⟨#[]⟩ : ByteArray), (⟨#[]⟩ : ByteArray), (⟨#[]⟩ : ByteArray), (⟨#[]⟩ : ByteArray), 0, 0, 0, 0, 0, ([] : qL), 0, 0, 0, 0, 0, 0, 0, 0, 0, 0, 0, 0, 0, 0, 0, ())) with | some y1 => (k y1) | none => none)
abbrev zyp (N : Nat) (x : qL × Int × ByteArray × Int) : Option (qL × Int) := (zfF N).d x
theorem zrw (N : Nat) : Zd (zfF N).t := by
 intro x α β k k' r r' h h1
 revert h
 dsimp only [zfF]
 (repeat' (first | (with_reducible refine ze ?_ ?_) | split)) <;> intro h <;> first | exact h1 _ h | cases h
theorem zrK (N : Nat) : Zh (zn qP) (zDK N) zvU (lam N []) Tryd.f30 (zfF N) := fun x => by kernel_rfl
theorem zxD (N : Nat) (a : List AV) (b : qL) (x : (zfF N).X) (h : (zfF N).pat a b = some x) : a = (zfF N).args x /\ b = (zfF N).bs x := by
 obtain ⟨v1, c2, rfl, g0⟩ := zb (show zk _ _ = some x from h)
 obtain ⟨c3, rfl, g1⟩ := zR g0; clear g0
 obtain ⟨c4, c5, rfl, g2⟩ := zb g1; clear g1
 obtain ⟨a0, rfl, g3⟩ := zr g2; clear g2
 obtain ⟨rfl, g4⟩ := zg g3; clear g3
 obtain ⟨v6, c7, rfl, g5⟩ := zb g4; clear g4
 obtain ⟨a1, rfl, g6⟩ := zC g5; clear g5
 obtain ⟨v8, c9, rfl, g7⟩ := zb g6; clear g6
 obtain ⟨a2, rfl, g8⟩ := JJ g7; clear g7
 obtain ⟨v10, c11, rfl, g9⟩ := zb g8; clear g8
 obtain ⟨a3, rfl, g10⟩ := zC g9; clear g9
 obtain ⟨rfl, g11⟩ := zg g10; clear g10
 obtain ⟨rfl, g12⟩ := zg g11; clear g11
 clear h
 cases g12
 exact ⟨rfl, rfl⟩
def zDe (N : Nat) : Ent qP := zy (zd qP) (zi _) zl 30 Tryd.f30 Tryd.func30 rfl zvU (lam N []) (zm (l := []) an (by kernel_rfl)) (zfF N) (fun _ => ⟨rfl, rfl⟩) (zrK N) (zxD N) (zrw N)
def zBM : Nat -> Keep × Keep := anL [(6, ⟨[0, 1, 4, 6, 7, 8], [], [0, 4, 6], [], [((0, 0), 1), ((4, 0), 1)], [], [], [], false, none, [((6, 0), 1)]⟩, ⟨[4, 6, 7], [], [0, 4, 6], [], [((0, 0), 1), ((4, 0), 1)], [], [], [], false, none, [((6, 0), 1)]⟩)]
def zaG (N : Nat) : LSpec where
 X := Int × Int × Int × qL × Int × qL × qL
 Y := (Int × qL × Int × qL × qL)
 p := fun s => rdS 111 1 [(0, .ptr 0 0), (1, .int .i64), (4, .ptr 4 0), (6, .ptr 6 0), (7, .int .i64), (8, .int .i64)] [(0, .cells [.tok 1 6400000000, .int .i64]), (4, .cells [.tok 1 6401048576]), (6, .cells [.lst 1])] s fun ⟨_, a0, _, _, a1, a2, _⟩ ⟨⟨a3, a4, _⟩, ⟨a5, _⟩, ⟨a6, _⟩, _⟩ => (a0, a1, a2, a3, a4, a5, a6)
 st := fun u6 => mkS 111 [(0, (AV.ptr 0 0)), (1, (qI u6.1)), (4, (AV.ptr 4 0)), (6, (AV.ptr 6 0)), (7, (qI u6.2.1)), (8, (qI u6.2.2.1))] [(0, [(AV.list 1 u6.2.2.2.1 (some 6400000000)), (qI u6.2.2.2.2.1)]), (4, [(AV.list 1 u6.2.2.2.2.2.1 (some 6401048576))]), (6, [(AV.list 1 u6.2.2.2.2.2.2 none)])] (zBM 6).1.toks 1
 out := fun y => (.exit 0, mkS 111 [(4, (AV.ptr 4 0)), (6, (AV.ptr 6 0)), (7, (qI y.1))] [(0, [(AV.list 1 y.2.1 (some 6400000000)), (qI y.2.2.1)]), (4, [(AV.list 1 y.2.2.2.1 (some 6401048576))]), (6, [(AV.list 1 y.2.2.2.2 none)])] (zBM 6).2.toks 1)
 b := fun u6 α kn ke => (match (decide (u6.2.2.1 < u6.1)) with | true => (match zdw N (50, u6.2.2.2.1, u6.2.2.2.2.1) with | some y19 => (match zdw N ((if (u6.2.2.2.2.2.2.length : Int) > 1 then (u6.2.2.2.2.2.2.length : Int) else 1), y19.2) with | some y20 => (match zdw N (8, y20.2) with | some y21 => (match (y21.1 == 0) with | true => (match zwf N (4, y21.2) with | some y22 => (match (decide ((y22.1.length : Int) > 0)) with | true => (match zhu N ([[(AV.v (.string (⟨#[97, 110, 110]⟩ : ByteArray)))], [(AV.v (.string (⟨#[98, 111, 98]⟩ : ByteArray)))]], y22.2) with | some y23 => (match zdw N ((y22.1.length : Int), y23.2) with | some y24 => (if 0 <= y24.1 then (match y22.1[y24.1.toNat]? with | some c25 => (match zju c25 with | some e26 => (match zyS N (u6.2.2.2.2.2.2, y20.1, y23.1, e26, (i64 (u6.2.1 + y19.1))) with | some y27 => (match (y27.2 == 0) with | true => (kn (u6.1, (i64 (u6.2.1 + y19.1)), (i64 (u6.2.2.1 + 1)), y24.2.1, y24.2.2, u6.2.2.2.2.2.1, y27.1)) | false => (kn (u6.1, (i64 (u6.2.1 + y19.1)), (i64 (u6.2.2.1 + 1)), y24.2.1, y24.2.2, u6.2.2.2.2.2))) | none => none) | none => none) | none => none) else none) | none => none) | none => none) | false => (match (0 == 0) with | true => (kn (u6.1, (i64 (u6.2.1 + y19.1)), (i64 (u6.2.2.1 + 1)), y22.2.1, y22.2.2, u6.2.2.2.2.2)) | false => (kn (u6.1, (i64 (u6.2.1 + y19.1)), (i64 (u6.2.2.1 + 1)), y22.2.1, y22.2.2, u6.2.2.2.2.2)))) | none => none) | false => (match (y21.1 == 1) with | true => (match zhu N ([[(AV.v (.string (⟨#[97, 110, 110]⟩ : ByteArray)))], [(AV.v (.string (⟨#[98, 111, 98]⟩ : ByteArray)))]], y21.2) with | some y28 => (match zyY N (u6.2.2.2.2.2.2, y20.1, y28.1, (i64 (u6.2.1 + y19.1))) with | some y29 => (match (y29.2 == 0) with | true => (kn (u6.1, (i64 (u6.2.1 + y19.1)), (i64 (u6.2.2.1 + 1)), y28.2.1, y28.2.2, u6.2.2.2.2.2.1, y29.1)) | false => (kn (u6.1, (i64 (u6.2.1 + y19.1)), (i64 (u6.2.2.1 + 1)), y28.2.1, y28.2.2, u6.2.2.2.2.2))) | none => none) | none => none) | false => (match (y21.1 == 2) with | true => (match zdw N ((if (u6.2.2.2.2.2.2.length : Int) > 1 then (u6.2.2.2.2.2.2.length : Int) else 1), y21.2) with | some y30 => (match zhu N ([[(AV.v (.string (⟨#[97, 110, 110]⟩ : ByteArray)))], [(AV.v (.string (⟨#[98, 111, 98]⟩ : ByteArray)))]], y30.2) with | some y31 => (match zzP N (u6.2.2.2.2.2.2, y20.1, y30.1, y31.1, (i64 (u6.2.1 + y19.1))) with | some y32 => (match (y32.2 == 0) with | true => (kn (u6.1, (i64 (u6.2.1 + y19.1)), (i64 (u6.2.2.1 + 1)), y31.2.1, y31.2.2, u6.2.2.2.2.2.1, y32.1)) | false => (kn (u6.1, (i64 (u6.2.1 + y19.1)), (i64 (u6.2.2.1 + 1)), y31.2.1, y31.2.2, u6.2.2.2.2.2))) | none => none) | none => none) | none => none) | false => (match (y21.1 == 3) with | true => (match zhu N ([[(AV.v (.string (⟨#[97, 110, 110]⟩ : ByteArray)))], [(AV.v (.string (⟨#[98, 111, 98]⟩ : ByteArray)))]], y21.2) with | some y33 => (match zyp N (u6.2.2.2.2.2.2, y20.1, y33.1, (i64 (u6.2.1 + y19.1))) with | some y34 => (match (y34.2 == 0) with | true => (kn (u6.1, (i64 (u6.2.1 + y19.1)), (i64 (u6.2.2.1 + 1)), y33.2.1, y33.2.2, u6.2.2.2.2.2.1, y34.1)) | false => (kn (u6.1, (i64 (u6.2.1 + y19.1)), (i64 (u6.2.2.1 + 1)), y33.2.1, y33.2.2, u6.2.2.2.2.2))) | none => none) | none => none) | false => (match zwf N (4, y21.2) with | some y35 => (match zvG N (u6.2.2.2.2.2.2, y35.1, (i64 (u6.2.1 + y19.1))) with | some y36 => (match (y36.2.2 == 0) with | true => (kn (u6.1, (i64 (u6.2.1 + y19.1)), (i64 (u6.2.2.1 + 1)), y35.2.1, y35.2.2, u6.2.2.2.2.2.1, y36.1)) | false => (kn (u6.1, (i64 (u6.2.1 + y19.1)), (i64 (u6.2.2.1 + 1)), y35.2.1, y35.2.2, u6.2.2.2.2.2))) | none => none) | none => none))))) | none => none) | none => none) | none => none) | false => (ke (u6.2.1, u6.2.2.2)))
abbrev zz5 (N : Nat) (x : Int × Int × Int × qL × Int × qL × qL) : Option ((Int × qL × Int × qL × qL)) := (zaG N).L N x
def zEH (N : Nat) : FSpec where
 X := Int × qL × Int
 Y := qL × Int × qL × Int
 ash := [[none], [none]]
 bsh := [[some 2000001, none]]
 S := ⟨[[some 1], [none]], [[some 2000001, none]], [], [6400000000], []⟩
 pat := fun a b => rdA [.ptr 0 0, .int .i64] [.cells [.tok 1 6400000000, .int .i64]] a b fun ⟨_, a0, _⟩ ⟨⟨a1, a2, _⟩, _⟩ => (a0, a1, a2)
 args := fun x => [(AV.ptr 0 0), (AV.v (.int .i64 x.1))]
 bs := fun x => [[(AV.list 1 x.2.1 (some 6400000000)), (AV.v (.int .i64 x.2.2))]]
 ret := fun y => ⟨(AV.tup [(AV.agg [(AV.list 1 y.1 none)]), (AV.v (.int .i64 y.2.1))]), [[(AV.list 1 y.2.2.1 (some 6400000000)), (AV.v (.int .i64 y.2.2.2))]], none, [6400000000], [6400000000], [], none⟩
 t := fun x α k => (match zz5 N (x.1, 100, 0, x.2.1, x.2.2, ([] : qL), ([] : qL)) with | some y37 => (k (y37.2.2.2.2, y37.1, y37.2.1, y37.2.2.1)) | none => none)
abbrev zDz (N : Nat) (x : Int × qL × Int) : Option (qL × Int × qL × Int) := (zEH N).d x
def zvX : Nat -> Keep × Keep := anL []
def zD4 (N : Nat) : GamK := gam (P := qP) [zy9 N]
def zo3 (N : Nat) : FSpec where
 X := Unit
 Y := RT0
 ash := []
 S := ⟨[[none, none, none, none, none, none, none, none, none, some 9, none, none, none, none, none, none, none, none, none, none, none, none, none, none, none]], [], [], [], []⟩
 pat := fun a b => rdA [] [] a b fun _ _ => ()
 args := fun x => []
 ret := fun y => ⟨(AV.agg (zB y)), [], none, [], [], [], none⟩
 t := fun x α k => (match zqh N 0 with | some y1 => (k (y1.1, y1.2.1, y1.2.2.1, y1.2.2.2.1, 1000, 0, 0, 0, 0, [(zq (y1.1, y1.2.1, y1.2.2.1, y1.2.2.2.1, 1000, 0, 0, 0, 0, ()))], 0, 0, 0, 0, 0, 0, 0, 0, 0, 0, 0, 0, 0, 0, 0, ())) | none => none)
abbrev zAE (N : Nat) (x : Unit) : Option (RT0) := (zo3 N).d x
theorem zsI (N : Nat) : Zd (zo3 N).t := by
 intro x α β k k' r r' h h1
 revert h
 dsimp only [zo3]
 (repeat' (first | (with_reducible refine ze ?_ ?_) | split)) <;> intro h <;> first | exact h1 _ h | cases h
theorem zq6 (N : Nat) : Zh (zn qP) (zD4 N) zvX (lam N []) Tryd.f41 (zo3 N) := fun x => by kernel_rfl
def zCK (N : Nat) : Ent qP := zy (zd qP) (zi _) zl 41 Tryd.f41 Tryd.func41 rfl zvX (lam N []) (zm (l := []) an (by kernel_rfl)) (zo3 N) (fun _ => ⟨rfl, rfl⟩) (zq6 N) (fun _ _ _ h => zu h (fun _ _ => rfl) (fun _ _ => rfl)) (zsI N)
def zxr : Nat -> Keep × Keep := anL []
def zCE (N : Nat) : GamK := gam (P := qP) [zrt N]
def zff (N : Nat) : FSpec where
 X := qL × Int × ByteArray × RT0 × Int
 Y := qL × Int
 ash := [[some 1], [none], [none], [none, none, none, none, none, none, none, none, none, some 9, none, none, none, none, none, none, none, none, none, none, none, none, none, none, none], [none]]
 S := ⟨[[some 1], [none]], [], [], [], []⟩
 pat := fun a b => zk a fun v1 c2 => jg v1 fun c3 => zk c3 fun c4 c5 => Z3 1 c4 fun a0 => zQ c5 <| zk c2 fun v6 c7 => jQ .i64 v6 fun a1 => zk c7 fun v8 c9 => zlT v8 fun a2 => zk c9 fun v10 c11 => zwv RK0 v10 fun a3 => zk c11 fun v12 c13 => jQ .i64 v12 fun a4 => zQ c13 <| zQ b <| some (a0, a1, a2, a3, a4)
 args := fun x => [(AV.agg [(AV.list 1 x.1 none)]), (AV.v (.int .i64 x.2.1)), (AV.v (.string x.2.2.1)), (AV.agg (zB x.2.2.2.1)), (AV.v (.int .i64 x.2.2.2.2))]
 ret := fun y => ⟨(AV.tup [(AV.agg [(AV.list 1 y.1 none)]), (AV.v (.int .i64 y.2))]), [], none, [], [], [], none⟩
 t := fun x α k => (match Jy N (x.1, x.2.1, (3, x.2.2.2.2, x.2.2.1, 0, x.2.2.2.1.1, x.2.2.2.1.2.1, x.2.2.2.1.2.2.1, x.2.2.2.1.2.2.2.1, x.2.2.2.1.2.2.2.2.1, x.2.2.2.1.2.2.2.2.2.1, x.2.2.2.1.2.2.2.2.2.2.1, x.2.2.2.1.2.2.2.2.2.2.2.1, x.2.2.2.1.2.2.2.2.2.2.2.2.1, x.2.2.2.1.2.2.2.2.2.2.2.2.2.1, x.2.2.2.1.2.2.2.2.2.2.2.2.2.2.1, x.2.2.2.1.2.2.2.2.2.2.2.2.2.2.2.1, x.2.2.2.1.2.2.2.2.2.2.2.2.2.2.2.2.1, x.2.2.2.1.2.2.2.2.2.2.2.2.2.2.2.2.2.1, x.2.2.2.1.2.2.2.2.2.2.2.2.2.2.2.2.2.2.1, x.2.2.2.1.2.2.2.2.2.2.2.2.2.2.2.2.2.2.2.1, x.2.2.2.1.2.2.2.2.2.2.2.2.2.2.2.2.2.2.2.2.1, x.2.2.2.1.2.2.2.2.2.2.2.2.2.2.2.2.2.2.2.2.2.1, x.2.2.2.1.2.2.2.2.2.2.2.2.2.2.2.2.2.2.2.2.2.2.1, x.2.2.2.1.2.2.2.2.2.2.2.2.2.2.2.2.2.2.2.2.2.2.2.1, x.2.2.2.1.2.2.2.2.2.2.2.2.2.2.2.2.2.2.2.2.2.2.2.2.1, x.2.2.2.1.2.2.2.2.2.2.2.2.2.2.2.2.2.2.2.2.2.2.2.2.2.1, x.2.2.2.1.2.2.2.2.2.2.2.2.2.2.2.2.2.2.2.2.2.2.2.2.2.2.1, x.2.2.2.1.2.2.2.2.2.2.2.2.2.2.2.2.2.2.2.2.2.2.2.2.2.2.2.1, x.2.2.2.1.2.2.2.2.2.2.2.2.2.2.2.2.2.2.2.2.2.2.2.2.2.2.2.2.1, ())) with | some y1 => (k y1) | none => none)
abbrev zsR (N : Nat) (x : qL × Int × ByteArray × RT0 × Int) : Option (qL × Int) := (zff N).d x
theorem zun (N : Nat) : Zd (zff N).t := by
 intro x α β k k' r r' h h1
 revert h
 dsimp only [zff]
 (repeat' (first | (with_reducible refine ze ?_ ?_) | split)) <;> intro h <;> first | exact h1 _ h | cases h
theorem ztB (N : Nat) : Zh (zn qP) (zCE N) zxr (lam N []) Tryd.f22 (zff N) := fun x => by kernel_rfl
theorem zzx (N : Nat) (a : List AV) (b : qL) (x : (zff N).X) (h : (zff N).pat a b = some x) : a = (zff N).args x /\ b = (zff N).bs x := by
 obtain ⟨v1, c2, rfl, g0⟩ := zb (show zk _ _ = some x from h)
 obtain ⟨c3, rfl, g1⟩ := zR g0; clear g0
 obtain ⟨c4, c5, rfl, g2⟩ := zb g1; clear g1
 obtain ⟨a0, rfl, g3⟩ := zr g2; clear g2
 obtain ⟨rfl, g4⟩ := zg g3; clear g3
 obtain ⟨v6, c7, rfl, g5⟩ := zb g4; clear g4
 obtain ⟨a1, rfl, g6⟩ := zC g5; clear g5
 obtain ⟨v8, c9, rfl, g7⟩ := zb g6; clear g6
 obtain ⟨a2, rfl, g8⟩ := JJ g7; clear g7
 obtain ⟨v10, c11, rfl, g9⟩ := zb g8; clear g8
 obtain ⟨a3, rfl, g10⟩ := zcM g9; clear g9
 obtain ⟨v12, c13, rfl, g11⟩ := zb g10; clear g10
 obtain ⟨a4, rfl, g12⟩ := zC g11; clear g11
 obtain ⟨rfl, g13⟩ := zg g12; clear g12
 obtain ⟨rfl, g14⟩ := zg g13; clear g13
 clear h
 cases g14
 exact ⟨rfl, rfl⟩
def zAI (N : Nat) : Ent qP := zy (zd qP) (zi _) zl 22 Tryd.f22 Tryd.func22 rfl zxr (lam N []) (zm (l := []) an (by kernel_rfl)) (zff N) (fun _ => ⟨rfl, rfl⟩) (ztB N) (zzx N) (zun N)
def zbR : Nat -> Keep × Keep := anL [(8, ⟨[12, 13], [], [], [(0, 1), (1, 1)], [], [], [], [], false, none, []⟩, qK [4] [] [])]
def zBp (N : Nat) : GamK := gam (P := qP) []
def zcT (N : Nat) : LSpec where
 X := qL × qL × Int × Int
 Y := (Bool) ⊕ (Unit)
 p := fun s => rdS 26 0 [(0, .lst 1), (1, .lst 1), (12, .int .i64), (13, .int .i64)] [] s fun ⟨a0, a1, a2, a3, _⟩ _ => (a0, a1, a2, a3)
 st := fun u8 => mkS 26 [(0, (AV.list 1 u8.1 none)), (1, (AV.list 1 u8.2.1 none)), (12, (qI u8.2.2.1)), (13, (qI u8.2.2.2))] [] (zbR 8).1.toks 0
 out := fun y => match y with
  | .inl y => (.ret, mkS 26 [(4, (AV.v (.bool y)))] [] (zbR 8).2.toks 0)
  | .inr y => (.exit 0, mkS 26 [] [] (zbR 8).2.toks 0)
 b := fun u8 α kn ke => (match (decide (u8.2.2.2 < u8.2.2.1)) with | true => (if 0 <= u8.2.2.2 then (match u8.1[u8.2.2.2.toNat]? with | some c1 => (match c1[0]? with | some x2 => (match x2 with | .v (.int q4 n3) => (if q4 = .i64 then (if 0 <= u8.2.2.2 then (match u8.2.1[u8.2.2.2.toNat]? with | some c5 => (match c5[0]? with | some x6 => (match x6 with | .v (.int q8 n7) => (if q8 = .i64 then (match (n3 != n7) with | true => (ke (.inl false)) | false => (kn (u8.1, u8.2.1, u8.2.2.1, (i64 (u8.2.2.2 + 1))))) else none) | _ => none) | none => none) | none => none) else none) else none) | _ => none) | none => none) | none => none) else none) | false => (ke (.inr ())))
abbrev zBW (N : Nat) (x : qL × qL × Int × Int) : Option ((Bool) ⊕ (Unit)) := (zcT N).L N x
def zpC (N : Nat) : FSpec where
 X := qL × qL
 Y := Bool
 ash := [[some 1], [some 1]]
 S := ⟨[[none]], [], [], [], []⟩
 pat := fun a b => rdA [.lst 1, .lst 1] [] a b fun ⟨a0, a1, _⟩ _ => (a0, a1)
 args := fun x => [(AV.list 1 x.1 none), (AV.list 1 x.2 none)]
 ret := fun y => ⟨(AV.v (.bool y)), [], none, [], [], [], none⟩
 t := fun x α k => (match ((x.1.length : Int) != (x.2.length : Int)) with | true => (k false) | false => (match zBW N (x.1, x.2, (x.1.length : Int), 0) with | some y9 => (match y9 with | .inl z10 => (k z10) | .inr z11 => (k true)) | none => none))
abbrev zAk (N : Nat) (x : qL × qL) : Option (Bool) := (zpC N).d x
def zgw (N : Nat) : List (Nat × LSpec) := [(8, zcT N)]
def zrR : Code := Tryd.f42.body.getD .skip
theorem zs3 (N : Nat) : Par (zcT N).b := by
 intro x α β kn ke kn' ke' r r' h h1 h2
 revert h
 dsimp only [zcT]
 (repeat' (first | (with_reducible refine ze ?_ ?_) | split)) <;> intro h <;> first | exact h1 _ h | exact h2 _ h | cases h
theorem zl0 (N : Nat) : ji (zn qP) (zBp N) zbR N (zgw N) 8 zrR (zcT N) := fun x α kn ke => by kernel_rfl
theorem zoN (N : Nat) : ZK qP zbR N (zgw N) 8 (zc 8 zrR) :=
 zD (zd qP) (zi _) zl zbR N (zgw N) 8 zrR (l := []) (by kernel_rfl) (by kernel_rfl) an (zcT N) rfl (fun s x hc h => by dsimp only [zcT] at h; exact zJ hc h (fun _ _ => rfl) rfl rfl rfl) (fun _ => rfl) (zl0 N) (zs3 N)
theorem zq0 (N : Nat) : Zd (zpC N).t := by
 intro x α β k k' r r' h h1
 revert h
 dsimp only [zpC]
 (repeat' (first | (with_reducible refine ze ?_ ?_) | split)) <;> intro h <;> first | exact h1 _ h | cases h
theorem zre (N : Nat) : Zh (zn qP) (zBp N) zbR (lam N (zgw N)) Tryd.f42 (zpC N) := fun x => by kernel_rfl
def zCM (N : Nat) : Ent qP := zy (zd qP) (zi _) zl 42 Tryd.f42 Tryd.func42 rfl zbR (lam N (zgw N)) (zm (l := [(8, zc 8 zrR)]) (al (zoN N) an) (by kernel_rfl)) (zpC N) (fun _ => ⟨rfl, rfl⟩) (zre N) (fun _ _ _ h => zu h (fun _ _ => rfl) (fun _ _ => rfl)) (zq0 N)
def zv7 : Nat -> Keep × Keep := anL []
def zDd (N : Nat) : GamK := gam (P := qP) [zCK N, zCi N, zAI N, zCM N, zDN N]
def zpZ (N : Nat) : FSpec where
 X := Unit
 Y := Bool
 ash := []
 S := ⟨[[none]], [], [], [], []⟩
 pat := fun a b => rdA [] [] a b fun _ _ => ()
 args := fun x => []
 ret := fun y => ⟨(AV.v (.bool y)), [], none, [], [], [], none⟩
 t := fun x α k => (match zAE N () with | some y1 => (match zlo N (([] : qL), [(zB y1)], 5) with | some y2 => (match zlo N (y2.1, ([] : qL), 6) with | some y3 => (match zAE N () with | some y4 => (match zsR N (y2.1, 0, (⟨#[97, 110, 110]⟩ : ByteArray), y4, 6) with | some y5 => (match zlo N (y5.1, ([] : qL), 7) with | some y6 => (match (y2.2.2 == 0) with | true => (match zAk N (y2.2.1, [[(AV.v (.int .i64 0))]]) with | some y7 => (match y7 with | true => (match (y3.2.2 == 0) with | true => (match zAk N (y3.2.1, [[(AV.v (.int .i64 0))]]) with | some y8 => (match y8 with | true => (match zyg N (y3.1, 6) with | some y9 => (match ((y9.length : Int) == 0) with | true => (match zyg N (y3.1, 5) with | some y10 => (match ((y10.length : Int) == 1) with | true => (match (y5.2 == 0) with | true => (match (y6.2.2 == 0) with | true => (match ((y6.2.1.length : Int) == 0) with | true => (match zyg N (y6.1, 7) with | some y11 => (k ((y11.length : Int) == 1)) | none => none) | false => (k false)) | false => (k false)) | false => (k false)) | false => (k false)) | none => none) | false => (k false)) | none => none) | false => (k false)) | none => none) | false => (k false)) | false => (k false)) | none => none) | false => (k false)) | none => none) | none => none) | none => none) | none => none) | none => none) | none => none)
abbrev zoD (N : Nat) (x : Unit) : Option (Bool) := (zpZ N).d x
theorem zrG (N : Nat) : Zd (zpZ N).t := by
 intro x α β k k' r r' h h1
 revert h
 dsimp only [zpZ]
 (repeat' (first | (with_reducible refine ze ?_ ?_) | split)) <;> intro h <;> first | exact h1 _ h | cases h
theorem ztW (N : Nat) : Zh (zn qP) (zDd N) zv7 (lam N []) Tryd.f12 (zpZ N) := fun x => by kernel_rfl
def zD6 (N : Nat) : Ent qP := zy (zd qP) (zi _) zl 12 Tryd.f12 Tryd.func12 rfl zv7 (lam N []) (zm (l := []) an (by kernel_rfl)) (zpZ N) (fun _ => ⟨rfl, rfl⟩) (ztW N) (fun _ _ _ h => zu h (fun _ _ => rfl) (fun _ _ => rfl)) (zrG N)
end
end Go.Proofs.YthdgnfcbehcplaaDoor
end
section
namespace Go.Proofs.YthdgnfcbehcplaaDoor
noncomputable section
open Go.RowKit
set_option maxRecDepth 4000
set_option maxHeartbeats 4000000
def zAr : Nat -> Keep × Keep := anL []
def F6_g (N : Nat) : GamK := gam (P := qP) []
def zzS (N : Nat) : FSpec where
 X := qL
 Y := qL × Int
 ash := [[some 1]]
 S := ⟨[[none]], [], [some 1, none], [], []⟩
 pat := fun a b => rdA [.lst 1] [] a b fun ⟨a0, _⟩ _ => a0
 args := fun x => [(AV.list 1 x none)]
 ret := fun y => ⟨(AV.ptr 0 0), [], some [(AV.list 1 y.1 none), (AV.v (.int .i64 y.2))], [], [], [], none⟩
 t := fun x α k => (if 0 <= (if 2000 < (x.length : Int) then 2000 else (x.length : Int)) /\ (if 2000 < (x.length : Int) then 2000 else (x.length : Int)) <= x.length then (k ((x.take (if 2000 < (x.length : Int) then 2000 else (x.length : Int)).toNat), 0)) else none)
abbrev zDH (N : Nat) (x : qL) : Option (qL × Int) := (zzS N).d x
theorem zzr (N : Nat) : Zd (zzS N).t := by
 intro x α β k k' r r' h h1
 revert h
 dsimp only [zzS]
 (repeat' (first | (with_reducible refine ze ?_ ?_) | split)) <;> intro h <;> first | exact h1 _ h | cases h
theorem zxJ (N : Nat) : Zh (zn qP) (F6_g N) zAr (lam N []) Tryd.f6 (zzS N) := fun x => by kernel_rfl
def F6_e (N : Nat) : Ent qP := zy (zd qP) (zi _) zl 6 Tryd.f6 Tryd.func6 rfl zAr (lam N []) (zm (l := []) an (by kernel_rfl)) (zzS N) (fun _ => ⟨rfl, rfl⟩) (zxJ N) (fun _ _ _ h => zu h (fun _ _ => rfl) (fun _ _ => rfl)) (zzr N)
def znr : Nat -> Keep × Keep := anL []
def zBF (N : Nat) : GamK := gam (P := qP) []
def zgz (N : Nat) : FSpec where
 X := qL × Int
 Y := Int × qL × Int
 ash := [[none]]
 bsh := [[some 1, none]]
 S := ⟨[[none]], [[some 1, none]], [], [], []⟩
 pat := fun a b => rdA [.ptr 0 0] [.cells [.lst 1, .int .i64]] a b fun ⟨_, _⟩ ⟨⟨a0, a1, _⟩, _⟩ => (a0, a1)
 args := fun x => [(AV.ptr 0 0)]
 bs := fun x => [[(AV.list 1 x.1 none), (AV.v (.int .i64 x.2))]]
 ret := fun y => ⟨(AV.v (.int .i64 y.1)), [[(AV.list 1 y.2.1 none), (AV.v (.int .i64 y.2.2))]], none, [], [], [], none⟩
 t := fun x α k => (match (decide (x.2 >= (x.1.length : Int))) with | true => (k (0, x)) | false => (if 0 <= (i64 ((i64 (x.2 + 1)) - 1)) then (match x.1[(i64 ((i64 (x.2 + 1)) - 1)).toNat]? with | some c1 => (match c1[0]? with | some x2 => (match x2 with | .v (.int q4 n3) => (if q4 = .i64 then (k (n3, x.1, (i64 (x.2 + 1)))) else none) | _ => none) | none => none) | none => none) else none))
abbrev zAv (N : Nat) (x : qL × Int) : Option (Int × qL × Int) := (zgz N).d x
theorem zmg (N : Nat) : Zd (zgz N).t := by
 intro x α β k k' r r' h h1
 revert h
 dsimp only [zgz]
 (repeat' (first | (with_reducible refine ze ?_ ?_) | split)) <;> intro h <;> first | exact h1 _ h | cases h
theorem zoJ (N : Nat) : Zh (zn qP) (zBF N) znr (lam N []) Tryd.f32 (zgz N) := fun x => by kernel_rfl
def zAR (N : Nat) : Ent qP := zy (zd qP) (zi _) zl 32 Tryd.f32 Tryd.func32 rfl znr (lam N []) (zm (l := []) an (by kernel_rfl)) (zgz N) (fun _ => ⟨rfl, rfl⟩) (zoJ N) (fun _ _ _ h => zu h (fun _ _ => rfl) (fun _ _ => rfl)) (zmg N)
def zxt : Nat -> Keep × Keep := anL []
def zEc (N : Nat) : GamK := gam (P := qP) [zAR N, zzI N]
def zpl (N : Nat) : FSpec where
 X := Int × qL × Int
 Y := Int × qL × Int
 ash := [[none], [none]]
 bsh := [[some 1, none]]
 S := ⟨[[none]], [[some 1, none]], [], [], []⟩
 pat := fun a b => rdA [.ptr 0 0, .int .i64] [.cells [.lst 1, .int .i64]] a b fun ⟨_, a0, _⟩ ⟨⟨a1, a2, _⟩, _⟩ => (a0, a1, a2)
 args := fun x => [(AV.ptr 0 0), (AV.v (.int .i64 x.1))]
 bs := fun x => [[(AV.list 1 x.2.1 none), (AV.v (.int .i64 x.2.2))]]
 ret := fun y => ⟨(AV.v (.int .i64 y.1)), [[(AV.list 1 y.2.1 none), (AV.v (.int .i64 y.2.2))]], none, [], [], [], none⟩
 t := fun x α k => (match zAv N x.2 with | some y1 => (match zjV N (y1.1, x.1) with | some y2 => (k (y2, y1.2)) | none => none) | none => none)
abbrev ja (N : Nat) (x : Int × qL × Int) : Option (Int × qL × Int) := (zpl N).d x
theorem zry (N : Nat) : Zd (zpl N).t := by
 intro x α β k k' r r' h h1
 revert h
 dsimp only [zpl]
 (repeat' (first | (with_reducible refine ze ?_ ?_) | split)) <;> intro h <;> first | exact h1 _ h | cases h
theorem zsb (N : Nat) : Zh (zn qP) (zEc N) zxt (lam N []) Tryd.f8 (zpl N) := fun x => by kernel_rfl
def zgv (N : Nat) : Ent qP := zy (zd qP) (zi _) zl 8 Tryd.f8 Tryd.func8 rfl zxt (lam N []) (zm (l := []) an (by kernel_rfl)) (zpl N) (fun _ => ⟨rfl, rfl⟩) (zsb N) (fun _ _ _ h => zu h (fun _ _ => rfl) (fun _ _ => rfl)) (zry N)
def zo7 : Nat -> Keep × Keep := anL []
def zAT (N : Nat) : GamK := gam (P := qP) [zgv N]
def zf2 (N : Nat) : FSpec where
 X := Int × qL × Int
 Y := Int × Int × Int × qL × Int
 ash := [[none], [none]]
 bsh := [[some 1, none]]
 S := ⟨[[none, none, none]], [[some 1, none]], [], [], []⟩
 pat := fun a b => rdA [.ptr 0 0, .int .i64] [.cells [.lst 1, .int .i64]] a b fun ⟨_, a0, _⟩ ⟨⟨a1, a2, _⟩, _⟩ => (a0, a1, a2)
 args := fun x => [(AV.ptr 0 0), (AV.v (.int .i64 x.1))]
 bs := fun x => [[(AV.list 1 x.2.1 none), (AV.v (.int .i64 x.2.2))]]
 ret := fun y => ⟨(AV.agg [(AV.v (.int .i64 y.1)), (AV.v (.int .i64 y.2.1)), (AV.v (.int .i64 y.2.2.1))]), [[(AV.list 1 y.2.2.2.1 none), (AV.v (.int .i64 y.2.2.2.2))]], none, [], [], [], none⟩
 t := fun x α k => (match ja N ((i64 ((i64 (2 * x.1)) + 1)), x.2) with | some y1 => (match ja N ((i64 ((i64 (2 * x.1)) + 1)), y1.2) with | some y2 => (match ja N ((i64 (x.1 + 1)), y2.2) with | some y3 => (k ((i64 (y1.1 - x.1)), (i64 (y2.1 - x.1)), y3)) | none => none) | none => none) | none => none)
abbrev zmj (N : Nat) (x : Int × qL × Int) : Option (Int × Int × Int × qL × Int) := (zf2 N).d x
theorem zpu (N : Nat) : Zd (zf2 N).t := by
 intro x α β k k' r r' h h1
 revert h
 dsimp only [zf2]
 (repeat' (first | (with_reducible refine ze ?_ ?_) | split)) <;> intro h <;> first | exact h1 _ h | cases h
theorem zn6 (N : Nat) : Zh (zn qP) (zAT N) zo7 (lam N []) Tryd.f51 (zf2 N) := fun x => by kernel_rfl
def zxa (N : Nat) : Ent qP := zy (zd qP) (zi _) zl 51 Tryd.f51 Tryd.func51 rfl zo7 (lam N []) (zm (l := []) an (by kernel_rfl)) (zf2 N) (fun _ => ⟨rfl, rfl⟩) (zn6 N) (fun _ _ _ h => zu h (fun _ _ => rfl) (fun _ _ => rfl)) (zpu N)
def zpv : Nat -> Keep × Keep := anL []
def zAU (N : Nat) : GamK := gam (P := qP) [zgv N]
def zha (N : Nat) : FSpec where
 X := qL × qL × Int
 Y := Int × qL × Int
 ash := [[none], [some 1]]
 bsh := [[some 1, none]]
 S := ⟨[[none]], [[some 1, none]], [], [], []⟩
 pat := fun a b => rdA [.ptr 0 0, .lst 1] [.cells [.lst 1, .int .i64]] a b fun ⟨_, a0, _⟩ ⟨⟨a1, a2, _⟩, _⟩ => (a0, a1, a2)
 args := fun x => [(AV.ptr 0 0), (AV.list 1 x.1 none)]
 bs := fun x => [[(AV.list 1 x.2.1 none), (AV.v (.int .i64 x.2.2))]]
 ret := fun y => ⟨(AV.v (.int .i64 y.1)), [[(AV.list 1 y.2.1 none), (AV.v (.int .i64 y.2.2))]], none, [], [], [], none⟩
 t := fun x α k => (match ja N ((x.1.length : Int), x.2) with | some y1 => (if 0 <= y1.1 then (match x.1[y1.1.toNat]? with | some c2 => (match c2[0]? with | some x3 => (match x3 with | .v (.int q5 n4) => (if q5 = .i64 then (k (n4, y1.2)) else none) | _ => none) | none => none) | none => none) else none) | none => none)
abbrev zmT (N : Nat) (x : qL × qL × Int) : Option (Int × qL × Int) := (zha N).d x
theorem zoy (N : Nat) : Zd (zha N).t := by
 intro x α β k k' r r' h h1
 revert h
 dsimp only [zha]
 (repeat' (first | (with_reducible refine ze ?_ ?_) | split)) <;> intro h <;> first | exact h1 _ h | cases h
theorem zpx (N : Nat) : Zh (zn qP) (zAU N) zpv (lam N []) Tryd.f52 (zha N) := fun x => by kernel_rfl
def zvW (N : Nat) : Ent qP := zy (zd qP) (zi _) zl 52 Tryd.f52 Tryd.func52 rfl zpv (lam N []) (zm (l := []) an (by kernel_rfl)) (zha N) (fun _ => ⟨rfl, rfl⟩) (zpx N) (fun _ _ _ h => zu h (fun _ _ => rfl) (fun _ _ => rfl)) (zoy N)
def zay : Nat -> Keep × Keep := anL [(6, ⟨[0, 1, 4, 5, 6, 7], [], [0, 4, 5], [], [((4, 9), 9), ((5, 9), 9)], [], [], [], false, none, []⟩, ⟨[0, 4, 5, 6], [], [0, 4, 5], [], [((4, 9), 9), ((5, 9), 9)], [], [], [], false, none, []⟩)]
def zxf (N : Nat) : GamK := gam (P := qP) [zgv N, zy9 N, zxa N, zvW N]
def ZB (N : Nat) : LSpec where
 X := Int × Int × Int × qL × Int × RT8 × RT9
 Y := (Int × qL × Int × RT8 × RT9)
 p := fun s => rdS 98 1 [(0, .ptr 0 0), (1, .int .i64), (4, .ptr 4 0), (5, .ptr 5 0), (6, .int .i64), (7, .int .i64)] [(0, .cells [.lst 1, .int .i64]), (4, .row RK8), (5, .row RK9)] s fun ⟨_, a0, _, _, a1, a2, _⟩ ⟨⟨a3, a4, _⟩, a5, a6, _⟩ => (a0, a1, a2, a3, a4, a5, a6)
 st := fun u6 => mkS 98 [(0, (AV.ptr 0 0)), (1, (qI u6.1)), (4, (AV.ptr 4 0)), (5, (AV.ptr 5 0)), (6, (qI u6.2.1)), (7, (qI u6.2.2.1))] [(0, [(AV.list 1 u6.2.2.2.1 none), (qI u6.2.2.2.2.1)]), (4, (zzQ u6.2.2.2.2.2.1)), (5, (zEI u6.2.2.2.2.2.2))] (zay 6).1.toks 1
 out := fun y => (.exit 0, mkS 98 [(0, (AV.ptr 0 0)), (4, (AV.ptr 4 0)), (5, (AV.ptr 5 0)), (6, (qI y.1))] [(0, [(AV.list 1 y.2.1 none), (qI y.2.2.1)]), (4, (zzQ y.2.2.2.1)), (5, (zEI y.2.2.2.2))] (zay 6).2.toks 1)
 b := fun u6 α kn ke => (match ja N (4, u6.2.2.2.1, u6.2.2.2.2.1) with | some y5 => (match (decide (u6.2.2.1 < (i64 (1 + y5.1)))) with | true => (match zqh N u6.2.2.1 with | some y6 => (match ja N (3, y5.2) with | some y7 => (if (u6.2.2.2.2.2.2.2.2.2.2.2.2.2.2.2.1.length + [(zq (y6.1, y6.2.1, y6.2.2.1, y6.2.2.2.1, (i64 (u6.2.1 + (i64 (10 * u6.1)))), (i64 (u6.2.1 + (i64 (10 * u6.1)))), (i64 ((i64 (u6.2.1 + (i64 (10 * u6.1)))) + y7.1)), u6.1, 0, ()))].length) * 104 <= zh then (kn (u6.1, u6.2.1, (i64 (u6.2.2.1 + 1)), y7.2.1, y7.2.2, u6.2.2.2.2.2.1, (u6.2.2.2.2.2.2.1, u6.2.2.2.2.2.2.2.1, u6.2.2.2.2.2.2.2.2.1, u6.2.2.2.2.2.2.2.2.2.1, u6.2.2.2.2.2.2.2.2.2.2.1, u6.2.2.2.2.2.2.2.2.2.2.2.1, u6.2.2.2.2.2.2.2.2.2.2.2.2.1, u6.2.2.2.2.2.2.2.2.2.2.2.2.2.1, u6.2.2.2.2.2.2.2.2.2.2.2.2.2.2.1, (u6.2.2.2.2.2.2.2.2.2.2.2.2.2.2.2.1 ++ [(zq (y6.1, y6.2.1, y6.2.2.1, y6.2.2.2.1, (i64 (u6.2.1 + (i64 (10 * u6.1)))), (i64 (u6.2.1 + (i64 (10 * u6.1)))), (i64 ((i64 (u6.2.1 + (i64 (10 * u6.1)))) + y7.1)), u6.1, 0, ()))]), u6.2.2.2.2.2.2.2.2.2.2.2.2.2.2.2.2))) else none) | none => none) | none => none) | false => (ke (u6.2.1, y5.2.1, y5.2.2, u6.2.2.2.2.2))) | none => none)
abbrev zoW (N : Nat) (x : Int × Int × Int × qL × Int × RT8 × RT9) : Option ((Int × qL × Int × RT8 × RT9)) := (ZB N).L N x
def zeu (N : Nat) : FSpec where
 X := Int × qL × Int
 Y := RT0 × qL × Int
 ash := [[none], [none]]
 bsh := [[some 1, none]]
 S := ⟨[[none, none, none, none, none, none, none, none, none, some 9, none, none, none, none, none, none, none, none, none, none, none, none, none, none, none]], [[some 1, none]], [], [], []⟩
 pat := fun a b => rdA [.ptr 0 0, .int .i64] [.cells [.lst 1, .int .i64]] a b fun ⟨_, a0, _⟩ ⟨⟨a1, a2, _⟩, _⟩ => (a0, a1, a2)
 args := fun x => [(AV.ptr 0 0), (AV.v (.int .i64 x.1))]
 bs := fun x => [[(AV.list 1 x.2.1 none), (AV.v (.int .i64 x.2.2))]]
 ret := fun y => ⟨(AV.agg (zB y.1)), [[(AV.list 1 y.2.1 none), (AV.v (.int .i64 y.2.2))]], none, [], [], [], none⟩
 t := fun x α k => (match ja N (300, x.2) with | some y1 => (match zoW N (x.1, (i64 (1000 + y1.1)), 0, y1.2.1, y1.2.2, ((⟨#[]⟩ : ByteArray), (⟨#[]⟩ : ByteArray), (⟨#[]⟩ : ByteArray), (⟨#[]⟩ : ByteArray), 0, 0, 0, 0, 0, ([] : qL), 0, 0, 0, 0, 0, 0, 0, 0, 0, 0, 0, 0, 0, 0, 0, ()), ((⟨#[]⟩ : ByteArray), (⟨#[]⟩ : ByteArray), (⟨#[]⟩ : ByteArray), (⟨#[]⟩ : ByteArray), 0, 0, 0, 0, 0, ([] : qL), 0, 0, 0, 0, 0, 0, 0, 0, 0, 0, 0, 0, 0, 0, 0, ())) with | some y8 => (if 0 <= (0 : Int) then (match y8.2.2.2.2.2.2.2.2.2.2.2.2.2.1[(0 : Int).toNat]? with | some c9 => (match Jv c9 with | some e10 => (match zmj N (20, y8.2.1, y8.2.2.1) with | some y11 => (match ja N (40, y11.2.2.2) with | some y12 => (match zmT N ([[(AV.v (.int .i64 0))], [(AV.v (.int .i64 0))], [(AV.v (.int .i64 5))], [(AV.v (.int .i64 500))]], y12.2) with | some y13 => (match ja N (3, y13.2) with | some y14 => (match (decide (y14.1 > 0)) with | true => (match ja N (400, y14.2) with | some y15 => (match ja N (60, y15.2) with | some y16 => (k ((e10.1, e10.2.1, e10.2.2.1, e10.2.2.2.1, e10.2.2.2.2.1, e10.2.2.2.2.2.1, e10.2.2.2.2.2.2.1, e10.2.2.2.2.2.2.2.1, e10.2.2.2.2.2.2.2.2.1, y8.2.2.2.2.2.2.2.2.2.2.2.2.2.1, y11.1, y11.2.1, y11.2.2.1, (i64 (y8.1 - y12.1)), y13.1, 0, y11.1, y11.2.1, y11.2.2.1, y11.1, y11.2.1, y11.2.2.1, y15.1, (i64 (y15.1 + y16.1)), y14.1, ()), y16.2)) | none => none) | none => none) | false => (k ((e10.1, e10.2.1, e10.2.2.1, e10.2.2.2.1, e10.2.2.2.2.1, e10.2.2.2.2.2.1, e10.2.2.2.2.2.2.1, e10.2.2.2.2.2.2.2.1, e10.2.2.2.2.2.2.2.2.1, y8.2.2.2.2.2.2.2.2.2.2.2.2.2.1, y11.1, y11.2.1, y11.2.2.1, (i64 (y8.1 - y12.1)), y13.1, 0, y11.1, y11.2.1, y11.2.2.1, y11.1, y11.2.1, y11.2.2.1, y8.2.2.2.2.2.2.2.2.2.2.2.2.2.2.2.2.2.2.2.2.2.2.2.2.2.2.1, y8.2.2.2.2.2.2.2.2.2.2.2.2.2.2.2.2.2.2.2.2.2.2.2.2.2.2.2.1, y14.1, ()), y14.2))) | none => none) | none => none) | none => none) | none => none) | none => none) | none => none) else none) | none => none) | none => none)
abbrev zqi (N : Nat) (x : Int × qL × Int) : Option (RT0 × qL × Int) := (zeu N).d x
def zcU (N : Nat) : List (Nat × LSpec) := [(6, ZB N)]
def zjy : Code := Tryd.f20.body.getD .skip
theorem zqs (N : Nat) : Par (ZB N).b := by
 intro x α β kn ke kn' ke' r r' h h1 h2
 revert h
 dsimp only [ZB]
 (repeat' (first | (with_reducible refine ze ?_ ?_) | split)) <;> intro h <;> first | exact h1 _ h | exact h2 _ h | cases h
theorem zlc (N : Nat) : ji (zn qP) (zxf N) zay N (zcU N) 6 zjy (ZB N) := fun x α kn ke => by kernel_rfl
theorem zkn (N : Nat) : ZK qP zay N (zcU N) 6 (zc 6 zjy) :=
 zD (zd qP) (zi _) zl zay N (zcU N) 6 zjy (l := []) (by kernel_rfl) (by kernel_rfl) an (ZB N) rfl (fun s x hc h => by dsimp only [ZB] at h; exact zJ hc h (fun _ _ => rfl) rfl rfl rfl) (fun _ => rfl) (zlc N) (zqs N)
theorem zl2 (N : Nat) : Zd (zeu N).t := by
 intro x α β k k' r r' h h1
 revert h
 dsimp only [zeu]
 (repeat' (first | (with_reducible refine ze ?_ ?_) | split)) <;> intro h <;> first | exact h1 _ h | cases h
theorem zoH (N : Nat) : Zh (zn qP) (zxf N) zay (lam N (zcU N)) Tryd.f20 (zeu N) := fun x => by kernel_rfl
def zAf (N : Nat) : Ent qP := zy (zd qP) (zi _) zl 20 Tryd.f20 Tryd.func20 rfl zay (lam N (zcU N)) (zm (l := [(6, zc 6 zjy)]) (al (zkn N) an) (by kernel_rfl)) (zeu N) (fun _ => ⟨rfl, rfl⟩) (zoH N) (fun _ _ _ h => zu h (fun _ _ => rfl) (fun _ _ => rfl)) (zl2 N)
def zaE : Nat -> Keep × Keep := anL [(6, ⟨[0, 1, 4, 5, 6, 7], [], [0, 4, 5], [], [((4, 9), 9)], [], [((5, 9), 9)], [], false, none, []⟩, ⟨[0, 4, 5, 6], [], [0, 4, 5], [], [((4, 9), 9)], [], [((5, 9), 9)], [], false, none, []⟩)]
def zw6 (N : Nat) : GamK := gam (P := qP) [zgv N, zy9 N, zxa N, zvW N]
def zaO (N : Nat) : LSpec where
 X := Int × Int × Int × qL × Int × RT8 × zqv × qA
 Y := (Int × qL × Int × RT8 × zqv × qA)
 p := fun s => rdS 98 1 [(0, .ptr 0 0), (1, .int .i64), (4, .ptr 4 0), (5, .ptr 5 0), (6, .int .i64), (7, .int .i64)] [(0, .cells [.lst 1, .int .i64]), (4, .row RK8), (5, .row zDi), (2020489, .tt)] s fun ⟨_, a0, _, _, a1, a2, _⟩ ⟨⟨a3, a4, _⟩, a5, a6, a7, _⟩ => (a0, a1, a2, a3, a4, a5, a6, a7)
 st := fun u6 => mkS 98 [(0, (AV.ptr 0 0)), (1, (qI u6.1)), (4, (AV.ptr 4 0)), (5, (AV.ptr 5 0)), (6, (qI u6.2.1)), (7, (qI u6.2.2.1))] [(0, [(AV.list 1 u6.2.2.2.1 none), (qI u6.2.2.2.2.1)]), (4, (zzQ u6.2.2.2.2.2.1)), (5, (zrB u6.2.2.2.2.2.2.1)), (2020489, u6.2.2.2.2.2.2.2)] (zaE 6).1.toks 1
 out := fun y => (.exit 0, mkS 98 [(0, (AV.ptr 0 0)), (4, (AV.ptr 4 0)), (5, (AV.ptr 5 0)), (6, (qI y.1))] [(0, [(AV.list 1 y.2.1 none), (qI y.2.2.1)]), (4, (zzQ y.2.2.2.1)), (5, (zrB y.2.2.2.2.1)), (2020489, y.2.2.2.2.2)] (zaE 6).2.toks 1)
 b := fun u6 α kn ke => (match ja N (4, u6.2.2.2.1, u6.2.2.2.2.1) with | some y5 => (match (decide (u6.2.2.1 < (i64 (1 + y5.1)))) with | true => (match zqh N u6.2.2.1 with | some y6 => (match ja N (3, y5.2) with | some y7 => (if u6.2.2.2.2.2.2.1.2.2.2.2.2.2.2.2.2.1 * 9 <= u6.2.2.2.2.2.2.2.length /\ (u6.2.2.2.2.2.2.1.2.2.2.2.2.2.2.2.2.1 + [(zq (y6.1, y6.2.1, y6.2.2.1, y6.2.2.2.1, (i64 (u6.2.1 + (i64 (10 * u6.1)))), (i64 (u6.2.1 + (i64 (10 * u6.1)))), (i64 ((i64 (u6.2.1 + (i64 (10 * u6.1)))) + y7.1)), u6.1, 0, ()))].length) * 104 <= zh then (kn (u6.1, u6.2.1, (i64 (u6.2.2.1 + 1)), y7.2.1, y7.2.2, u6.2.2.2.2.2.1, (u6.2.2.2.2.2.2.1.1, u6.2.2.2.2.2.2.1.2.1, u6.2.2.2.2.2.2.1.2.2.1, u6.2.2.2.2.2.2.1.2.2.2.1, u6.2.2.2.2.2.2.1.2.2.2.2.1, u6.2.2.2.2.2.2.1.2.2.2.2.2.1, u6.2.2.2.2.2.2.1.2.2.2.2.2.2.1, u6.2.2.2.2.2.2.1.2.2.2.2.2.2.2.1, u6.2.2.2.2.2.2.1.2.2.2.2.2.2.2.2.1, (u6.2.2.2.2.2.2.1.2.2.2.2.2.2.2.2.2.1 + [(zq (y6.1, y6.2.1, y6.2.2.1, y6.2.2.2.1, (i64 (u6.2.1 + (i64 (10 * u6.1)))), (i64 (u6.2.1 + (i64 (10 * u6.1)))), (i64 ((i64 (u6.2.1 + (i64 (10 * u6.1)))) + y7.1)), u6.1, 0, ()))].length), u6.2.2.2.2.2.2.1.2.2.2.2.2.2.2.2.2.2), ((u6.2.2.2.2.2.2.2.take (u6.2.2.2.2.2.2.1.2.2.2.2.2.2.2.2.2.1 * 9) ++ [(zq (y6.1, y6.2.1, y6.2.2.1, y6.2.2.2.1, (i64 (u6.2.1 + (i64 (10 * u6.1)))), (i64 (u6.2.1 + (i64 (10 * u6.1)))), (i64 ((i64 (u6.2.1 + (i64 (10 * u6.1)))) + y7.1)), u6.1, 0, ()))].flatten).map dat0))) else none) | none => none) | none => none) | false => (ke (u6.2.1, y5.2.1, y5.2.2, u6.2.2.2.2.2.1, u6.2.2.2.2.2.2.1, (u6.2.2.2.2.2.2.2.map dat0)))) | none => none)
abbrev zyU (N : Nat) (x : Int × Int × Int × qL × Int × RT8 × zqv × qA) : Option ((Int × qL × Int × RT8 × zqv × qA)) := (zaO N).L N x
def zgo (N : Nat) : FSpec where
 X := Int × qL × Int
 Y := zx3 × qL × Int × qA
 ash := [[none], [none]]
 bsh := [[some 1, none]]
 S := ⟨[[none, none, none, none, none, none, none, none, none, some 9, none, none, none, none, none, none, none, none, none, none, none, none, none, none, none]], [[some 1, none]], [], [], []⟩
 bm := true
 pat := fun a b => rdA [.ptr 0 0, .int .i64] [.cells [.lst 1, .int .i64]] a b fun ⟨_, a0, _⟩ ⟨⟨a1, a2, _⟩, _⟩ => (a0, a1, a2)
 args := fun x => [(AV.ptr 0 0), (AV.v (.int .i64 x.1))]
 bs := fun x => [[(AV.list 1 x.2.1 none), (AV.v (.int .i64 x.2.2))]]
 ret := fun y => ⟨(AV.agg (zAm y.1)), [[(AV.list 1 y.2.1 none), (AV.v (.int .i64 y.2.2.1))]], some y.2.2.2, [], [], [], none⟩
 t := fun x α k => (match ja N (300, x.2) with | some y1 => (match zyU N (x.1, (i64 (1000 + y1.1)), 0, y1.2.1, y1.2.2, ((⟨#[]⟩ : ByteArray), (⟨#[]⟩ : ByteArray), (⟨#[]⟩ : ByteArray), (⟨#[]⟩ : ByteArray), 0, 0, 0, 0, 0, ([] : qL), 0, 0, 0, 0, 0, 0, 0, 0, 0, 0, 0, 0, 0, 0, 0, ()), ((⟨#[]⟩ : ByteArray), (⟨#[]⟩ : ByteArray), (⟨#[]⟩ : ByteArray), (⟨#[]⟩ : ByteArray), 0, 0, 0, 0, 0, 0, 0, 0, 0, 0, 0, 0, 0, 0, 0, 0, 0, 0, 0, 0, 0, ()), ([] : List AV)) with | some y8 => (if 0 <= (0 : Int) /\ (0 : Int) < (y8.2.2.2.2.1.2.2.2.2.2.2.2.2.2.1 : Int) then (match Jv (y8.2.2.2.2.2.drop ((0 + (0 : Int).toNat) * 9)) with | some e9 => (match zmj N (20, y8.2.1, y8.2.2.1) with | some y10 => (match ja N (40, y10.2.2.2) with | some y11 => (match zmT N ([[(AV.v (.int .i64 0))], [(AV.v (.int .i64 0))], [(AV.v (.int .i64 5))], [(AV.v (.int .i64 500))]], y11.2) with | some y12 => (match ja N (3, y12.2) with | some y13 => (match (decide (y13.1 > 0)) with | true => (match ja N (400, y13.2) with | some y14 => (match ja N (60, y14.2) with | some y15 => (k ((e9.1, e9.2.1, e9.2.2.1, e9.2.2.2.1, e9.2.2.2.2.1, e9.2.2.2.2.2.1, e9.2.2.2.2.2.2.1, e9.2.2.2.2.2.2.2.1, e9.2.2.2.2.2.2.2.2.1, y8.2.2.2.2.1.2.2.2.2.2.2.2.2.2.1, y10.1, y10.2.1, y10.2.2.1, (i64 (y8.1 - y11.1)), y12.1, 0, y10.1, y10.2.1, y10.2.2.1, y10.1, y10.2.1, y10.2.2.1, y14.1, (i64 (y14.1 + y15.1)), y13.1, ()), y15.2.1, y15.2.2, (y8.2.2.2.2.2.map dat0))) | none => none) | none => none) | false => (k ((e9.1, e9.2.1, e9.2.2.1, e9.2.2.2.1, e9.2.2.2.2.1, e9.2.2.2.2.2.1, e9.2.2.2.2.2.2.1, e9.2.2.2.2.2.2.2.1, e9.2.2.2.2.2.2.2.2.1, y8.2.2.2.2.1.2.2.2.2.2.2.2.2.2.1, y10.1, y10.2.1, y10.2.2.1, (i64 (y8.1 - y11.1)), y12.1, 0, y10.1, y10.2.1, y10.2.2.1, y10.1, y10.2.1, y10.2.2.1, y8.2.2.2.2.1.2.2.2.2.2.2.2.2.2.2.2.2.2.2.2.2.2.2.2.2.2.2.1, y8.2.2.2.2.1.2.2.2.2.2.2.2.2.2.2.2.2.2.2.2.2.2.2.2.2.2.2.2.1, y13.1, ()), y13.2.1, y13.2.2, (y8.2.2.2.2.2.map dat0)))) | none => none) | none => none) | none => none) | none => none) | none => none) else none) | none => none) | none => none)
abbrev zz3 (N : Nat) (x : Int × qL × Int) : Option (zx3 × qL × Int × qA) := (zgo N).d x
def zcS (N : Nat) : List (Nat × LSpec) := [(6, zaO N)]
def ziE : Code := Tryd.f20.body.getD .skip
theorem zp7 (N : Nat) : Par (zaO N).b := by
 intro x α β kn ke kn' ke' r r' h h1 h2
 revert h
 dsimp only [zaO]
 (repeat' (first | (with_reducible refine ze ?_ ?_) | split)) <;> intro h <;> first | exact h1 _ h | exact h2 _ h | cases h
theorem zkT (N : Nat) : ji (JT qP [41]) (zw6 N) zaE N (zcS N) 6 ziE (zaO N) := fun x α kn ke => by kernel_rfl
theorem zlG (N : Nat) : ZK qP zaE N (zcS N) 6 (zc 6 ziE) :=
 zD (zL qP [41]) (zi _) zl zaE N (zcS N) 6 ziE (l := []) (by kernel_rfl) (by kernel_rfl) an (zaO N) rfl (fun s x hc h => by dsimp only [zaO] at h; exact zJ hc h (fun _ _ => rfl) rfl rfl rfl) (fun _ => rfl) (zkT N) (zp7 N)
theorem zpR (N : Nat) : Zd (zgo N).t := by
 intro x α β k k' r r' h h1
 revert h
 dsimp only [zgo]
 (repeat' (first | (with_reducible refine ze ?_ ?_) | split)) <;> intro h <;> first | exact h1 _ h | cases h
theorem znS (N : Nat) : Zh (JT qP [41]) (zw6 N) zaE (lam N (zcS N)) Tryd.f20 (zgo N) := fun x => by kernel_rfl
def zCh (N : Nat) : Ent qP := zy (zL qP [41]) (zi _) zl 20 Tryd.f20 Tryd.func20 rfl zaE (lam N (zcS N)) (zm (l := [(6, zc 6 ziE)]) (al (zlG N) an) (by kernel_rfl)) (zgo N) (fun _ => ⟨rfl, rfl⟩) (znS N) (fun _ _ _ h => zu h (fun _ _ => rfl) (fun _ _ => rfl)) (zpR N)
def JP : Nat -> Keep × Keep := anF [(5, ⟨[0, 1, 6], [], [0], [], [], [(5, 25)], [], [], false, none, []⟩, ⟨[], [], [0], [], [], [(5, 25)], [], [], false, none, []⟩), (18, ⟨[0, 1, 5, 6, 7, 23, 24], [], [0, 7, 19, 1000005], [], [], [], [], [19, 1000005], false, none, []⟩, ⟨[0, 1, 5, 6, 7], [], [0, 7, 19, 1000005], [], [], [], [], [19, 1000005], false, none, []⟩)] [(100015, ([], [((7, 9), 9)])), (100016, ([5], []))]
def zzl (N : Nat) : GamK := gam (P := qP) [zgv N, zCh N]
def zaM (N : Nat) : LSpec where
 X := Int × Nat × Int × Int × Int × qL × Int × zqP × qA × qA
 Y := (Int × Nat × Int × qL × Int × zqP × qA × qA)
 p := fun s => rdS 86 1 [(0, .ptr 0 0), (1, .int .i64), (5, .vs0 1000005 25), (6, .int .i64), (7, .ptr 7 0), (23, .int .i64), (24, .int .i64)] [(0, .cells [.lst 1, .int .i64]), (7, .row zDw), (19, .tt), (1000005, .tt)] s fun ⟨_, a0, a1, a2, _, a3, a4, _⟩ ⟨⟨a5, a6, _⟩, a7, a8, a9, _⟩ => (a0, a1, a2, a3, a4, a5, a6, a7, a8, a9)
 st := fun u18 => mkS 86 [(0, (AV.ptr 0 0)), (1, (qI u18.1)), (5, (AV.vs 1000005 0 u18.2.1 25)), (6, (qI u18.2.2.1)), (7, (AV.ptr 7 0)), (23, (qI u18.2.2.2.1)), (24, (qI u18.2.2.2.2.1))] [(0, [(AV.list 1 u18.2.2.2.2.2.1 none), (qI u18.2.2.2.2.2.2.1)]), (7, (zrM u18.2.2.2.2.2.2.2.1)), (19, u18.2.2.2.2.2.2.2.2.1), (1000005, u18.2.2.2.2.2.2.2.2.2)] (JP 18).1.toks 1
 out := fun y => (.exit 2, mkS 86 [(0, (AV.ptr 0 0)), (1, (qI y.1)), (5, (AV.vs 1000005 0 y.2.1 25)), (6, (qI y.2.2.1)), (7, (AV.ptr 7 0))] [(0, [(AV.list 1 y.2.2.2.1 none), (qI y.2.2.2.2.1)]), (7, (zrM y.2.2.2.2.2.1)), (19, y.2.2.2.2.2.2.1), (1000005, y.2.2.2.2.2.2.2)] (JP 18).2.toks 1)
 b := fun u18 α kn ke => (match (decide (u18.2.2.2.2.1 < u18.2.2.2.1)) with | true => (if 0 <= u18.2.2.2.2.1 /\ u18.2.2.2.2.1 < (u18.2.2.2.2.2.2.2.1.2.2.2.2.2.2.2.2.2.1 : Int) then (if (((0 + u18.2.2.2.2.1.toNat) * 9) + 4) + 1 <= u18.2.2.2.2.2.2.2.2.1.length then (if (((0 + u18.2.2.2.2.1.toNat) * 9) + 5) + 1 <= (splice u18.2.2.2.2.2.2.2.2.1 (((0 + u18.2.2.2.2.1.toNat) * 9) + 4) [(AV.v (.int .i64 (i64 ((i64 (1000 + (i64 (400 * u18.2.2.1)))) + u18.2.2.2.2.1))))]).length then (if (((0 + u18.2.2.2.2.1.toNat) * 9) + 6) + 1 <= (splice (splice u18.2.2.2.2.2.2.2.2.1 (((0 + u18.2.2.2.2.1.toNat) * 9) + 4) [(AV.v (.int .i64 (i64 ((i64 (1000 + (i64 (400 * u18.2.2.1)))) + u18.2.2.2.2.1))))]) (((0 + u18.2.2.2.2.1.toNat) * 9) + 5) [(AV.v (.int .i64 (i64 ((i64 (1000 + (i64 (400 * u18.2.2.1)))) + u18.2.2.2.2.1))))]).length then (if (((0 + u18.2.2.2.2.1.toNat) * 9) + 7) + 1 <= (splice (splice (splice u18.2.2.2.2.2.2.2.2.1 (((0 + u18.2.2.2.2.1.toNat) * 9) + 4) [(AV.v (.int .i64 (i64 ((i64 (1000 + (i64 (400 * u18.2.2.1)))) + u18.2.2.2.2.1))))]) (((0 + u18.2.2.2.2.1.toNat) * 9) + 5) [(AV.v (.int .i64 (i64 ((i64 (1000 + (i64 (400 * u18.2.2.1)))) + u18.2.2.2.2.1))))]) (((0 + u18.2.2.2.2.1.toNat) * 9) + 6) [(AV.v (.int .i64 (i64 ((i64 ((i64 (1000 + (i64 (400 * u18.2.2.1)))) + u18.2.2.2.2.1)) + 2))))]).length then (kn (u18.1, u18.2.1, u18.2.2.1, u18.2.2.2.1, (i64 (u18.2.2.2.2.1 + 1)), u18.2.2.2.2.2.1, u18.2.2.2.2.2.2.1, u18.2.2.2.2.2.2.2.1, ((splice (splice (splice (splice u18.2.2.2.2.2.2.2.2.1 (((0 + u18.2.2.2.2.1.toNat) * 9) + 4) [(AV.v (.int .i64 (i64 ((i64 (1000 + (i64 (400 * u18.2.2.1)))) + u18.2.2.2.2.1))))]) (((0 + u18.2.2.2.2.1.toNat) * 9) + 5) [(AV.v (.int .i64 (i64 ((i64 (1000 + (i64 (400 * u18.2.2.1)))) + u18.2.2.2.2.1))))]) (((0 + u18.2.2.2.2.1.toNat) * 9) + 6) [(AV.v (.int .i64 (i64 ((i64 ((i64 (1000 + (i64 (400 * u18.2.2.1)))) + u18.2.2.2.2.1)) + 2))))]) (((0 + u18.2.2.2.2.1.toNat) * 9) + 7) [(AV.v (.int .i64 7))]).map dat0), (u18.2.2.2.2.2.2.2.2.2.map dat0))) else none) else none) else none) else none) else none) | false => (ke (u18.1, u18.2.1, u18.2.2.1, u18.2.2.2.2.2.1, u18.2.2.2.2.2.2.1, u18.2.2.2.2.2.2.2.1, (u18.2.2.2.2.2.2.2.2.1.map dat0), (u18.2.2.2.2.2.2.2.2.2.map dat0))))
abbrev zzd (N : Nat) (x : Int × Nat × Int × Int × Int × qL × Int × zqP × qA × qA) : Option ((Int × Nat × Int × qL × Int × zqP × qA × qA)) := (zaM N).L N x
def zdB (N : Nat) : LSpec where
 X := Nat × Int × Int × qL × Int × qA
 Y := (Nat × qL × Int × qA)
 p := fun s => rdS 86 1 [(5, .vs0 1000005 25), (0, .ptr 0 0), (1, .int .i64), (6, .int .i64)] [(0, .cells [.lst 1, .int .i64]), (1000005, .tt)] s fun ⟨a0, _, a1, a2, _⟩ ⟨⟨a3, a4, _⟩, a5, _⟩ => (a0, a1, a2, a3, a4, a5)
 st := fun u5 => mkS 86 [(5, (AV.vs 1000005 0 u5.1 25)), (0, (AV.ptr 0 0)), (1, (qI u5.2.1)), (6, (qI u5.2.2.1))] [(0, [(AV.list 1 u5.2.2.2.1 none), (qI u5.2.2.2.2.1)]), (1000005, u5.2.2.2.2.2)] (JP 5).1.toks 1
 out := fun y => (.exit 0, mkS 86 [(5, (AV.vs 1000005 0 y.1 25))] [(0, [(AV.list 1 y.2.1 none), (qI y.2.2.1)]), (1000005, y.2.2.2)] (JP 5).2.toks 1)
 b := fun u5 α kn ke => (match (decide (u5.2.2.1 < u5.2.1)) with | true => (match ja N (3, u5.2.2.2.1, u5.2.2.2.2.1) with | some y6 => (match (y6.1 == 0) with | true => (kn (u5.1, u5.2.1, (i64 (u5.2.2.1 + 1)), y6.2.1, y6.2.2, (u5.2.2.2.2.2.map dat0))) | false => (match zz3 N (1, y6.2) with | some y7 => (match zzd N (u5.2.1, u5.1, u5.2.2.1, ((y7.1.2.2.2.2.2.2.2.2.2.1 : Nat) : Int), 0, y7.2.1, y7.2.2.1, y7.1, ((y7.2.2.2.map dat0).map dat0), (u5.2.2.2.2.2.map dat0)) with | some y8 => (match ja N (2, y8.2.2.2.1, y8.2.2.2.2.1) with | some y9 => (if 0 <= (if (i64 (((y8.2.2.2.2.2.1.2.2.2.2.2.2.2.2.2.1 : Nat) : Int) - 1)) < y9.1 then (i64 (((y8.2.2.2.2.2.1.2.2.2.2.2.2.2.2.2.1 : Nat) : Int) - 1)) else y9.1) /\ (if (i64 (((y8.2.2.2.2.2.1.2.2.2.2.2.2.2.2.2.1 : Nat) : Int) - 1)) < y9.1 then (i64 (((y8.2.2.2.2.2.1.2.2.2.2.2.2.2.2.2.1 : Nat) : Int) - 1)) else y9.1) <= (y8.2.2.2.2.2.1.2.2.2.2.2.2.2.2.2.1 : Int) then (if 0 <= (0 : Int) /\ (0 : Int) < (((y8.2.2.2.2.2.1.2.2.2.2.2.2.2.2.2.1 - (if (i64 (((y8.2.2.2.2.2.1.2.2.2.2.2.2.2.2.2.1 : Nat) : Int) - 1)) < y9.1 then (i64 (((y8.2.2.2.2.2.1.2.2.2.2.2.2.2.2.2.1 : Nat) : Int) - 1)) else y9.1).toNat) : Nat) : Int) then (match Jv (y8.2.2.2.2.2.2.1.drop (((0 + (if (i64 (((y8.2.2.2.2.2.1.2.2.2.2.2.2.2.2.2.1 : Nat) : Int) - 1)) < y9.1 then (i64 (((y8.2.2.2.2.2.1.2.2.2.2.2.2.2.2.2.1 : Nat) : Int) - 1)) else y9.1).toNat) + (0 : Int).toNat) * 9)) with | some e10 => (if (y8.2.2.2.2.2.1.2.2.2.2.2.2.2.2.2.1 - (if (i64 (((y8.2.2.2.2.2.1.2.2.2.2.2.2.2.2.2.1 : Nat) : Int) - 1)) < y9.1 then (i64 (((y8.2.2.2.2.2.1.2.2.2.2.2.2.2.2.2.1 : Nat) : Int) - 1)) else y9.1).toNat) * 9 <= (JW (0 + (if (i64 (((y8.2.2.2.2.2.1.2.2.2.2.2.2.2.2.2.1 : Nat) : Int) - 1)) < y9.1 then (i64 (((y8.2.2.2.2.2.1.2.2.2.2.2.2.2.2.2.1 : Nat) : Int) - 1)) else y9.1).toNat) 9 y8.2.2.2.2.2.2.1).length then (if y8.2.1 * 25 <= y8.2.2.2.2.2.2.2.length /\ (y8.2.1 + [(zB (e10.1, e10.2.1, e10.2.2.1, e10.2.2.2.1, e10.2.2.2.2.1, e10.2.2.2.2.2.1, e10.2.2.2.2.2.2.1, e10.2.2.2.2.2.2.2.1, e10.2.2.2.2.2.2.2.2.1, (zK ((JW (0 + (if (i64 (((y8.2.2.2.2.2.1.2.2.2.2.2.2.2.2.2.1 : Nat) : Int) - 1)) < y9.1 then (i64 (((y8.2.2.2.2.2.1.2.2.2.2.2.2.2.2.2.1 : Nat) : Int) - 1)) else y9.1).toNat) 9 y8.2.2.2.2.2.2.1).take ((y8.2.2.2.2.2.1.2.2.2.2.2.2.2.2.2.1 - (if (i64 (((y8.2.2.2.2.2.1.2.2.2.2.2.2.2.2.2.1 : Nat) : Int) - 1)) < y9.1 then (i64 (((y8.2.2.2.2.2.1.2.2.2.2.2.2.2.2.2.1 : Nat) : Int) - 1)) else y9.1).toNat) * 9)) 9 (y8.2.2.2.2.2.1.2.2.2.2.2.2.2.2.2.1 - (if (i64 (((y8.2.2.2.2.2.1.2.2.2.2.2.2.2.2.2.1 : Nat) : Int) - 1)) < y9.1 then (i64 (((y8.2.2.2.2.2.1.2.2.2.2.2.2.2.2.2.1 : Nat) : Int) - 1)) else y9.1).toNat)), y8.2.2.2.2.2.1.2.2.2.2.2.2.2.2.2.2))].length) * 248 <= zh then (kn ((y8.2.1 + [(zB (e10.1, e10.2.1, e10.2.2.1, e10.2.2.2.1, e10.2.2.2.2.1, e10.2.2.2.2.2.1, e10.2.2.2.2.2.2.1, e10.2.2.2.2.2.2.2.1, e10.2.2.2.2.2.2.2.2.1, (zK ((JW (0 + (if (i64 (((y8.2.2.2.2.2.1.2.2.2.2.2.2.2.2.2.1 : Nat) : Int) - 1)) < y9.1 then (i64 (((y8.2.2.2.2.2.1.2.2.2.2.2.2.2.2.2.1 : Nat) : Int) - 1)) else y9.1).toNat) 9 y8.2.2.2.2.2.2.1).take ((y8.2.2.2.2.2.1.2.2.2.2.2.2.2.2.2.1 - (if (i64 (((y8.2.2.2.2.2.1.2.2.2.2.2.2.2.2.2.1 : Nat) : Int) - 1)) < y9.1 then (i64 (((y8.2.2.2.2.2.1.2.2.2.2.2.2.2.2.2.1 : Nat) : Int) - 1)) else y9.1).toNat) * 9)) 9 (y8.2.2.2.2.2.1.2.2.2.2.2.2.2.2.2.1 - (if (i64 (((y8.2.2.2.2.2.1.2.2.2.2.2.2.2.2.2.1 : Nat) : Int) - 1)) < y9.1 then (i64 (((y8.2.2.2.2.2.1.2.2.2.2.2.2.2.2.2.1 : Nat) : Int) - 1)) else y9.1).toNat)), y8.2.2.2.2.2.1.2.2.2.2.2.2.2.2.2.2))].length), y8.1, (i64 (y8.2.2.1 + 1)), y9.2.1, y9.2.2, ((y8.2.2.2.2.2.2.2.take (y8.2.1 * 25) ++ [(zB (e10.1, e10.2.1, e10.2.2.1, e10.2.2.2.1, e10.2.2.2.2.1, e10.2.2.2.2.2.1, e10.2.2.2.2.2.2.1, e10.2.2.2.2.2.2.2.1, e10.2.2.2.2.2.2.2.2.1, (zK ((JW (0 + (if (i64 (((y8.2.2.2.2.2.1.2.2.2.2.2.2.2.2.2.1 : Nat) : Int) - 1)) < y9.1 then (i64 (((y8.2.2.2.2.2.1.2.2.2.2.2.2.2.2.2.1 : Nat) : Int) - 1)) else y9.1).toNat) 9 y8.2.2.2.2.2.2.1).take ((y8.2.2.2.2.2.1.2.2.2.2.2.2.2.2.2.1 - (if (i64 (((y8.2.2.2.2.2.1.2.2.2.2.2.2.2.2.2.1 : Nat) : Int) - 1)) < y9.1 then (i64 (((y8.2.2.2.2.2.1.2.2.2.2.2.2.2.2.2.1 : Nat) : Int) - 1)) else y9.1).toNat) * 9)) 9 (y8.2.2.2.2.2.1.2.2.2.2.2.2.2.2.2.1 - (if (i64 (((y8.2.2.2.2.2.1.2.2.2.2.2.2.2.2.2.1 : Nat) : Int) - 1)) < y9.1 then (i64 (((y8.2.2.2.2.2.1.2.2.2.2.2.2.2.2.2.1 : Nat) : Int) - 1)) else y9.1).toNat)), y8.2.2.2.2.2.1.2.2.2.2.2.2.2.2.2.2))].flatten).map dat0))) else none) else none) | none => none) else none) else none) | none => none) | none => none) | none => none)) | none => none) | false => (ke (u5.1, u5.2.2.2.1, u5.2.2.2.2.1, (u5.2.2.2.2.2.map dat0))))
abbrev zAC (N : Nat) (x : Nat × Int × Int × qL × Int × qA) : Option ((Nat × qL × Int × qA)) := (zdB N).L N x
def zl6 (N : Nat) : FSpec where
 X := Int × qL × Int
 Y := qL × qL × Int
 ash := [[none], [none]]
 bsh := [[some 1, none]]
 S := ⟨[[some 2000025]], [[some 1, none]], [], [], []⟩
 pat := fun a b => rdA [.ptr 0 0, .int .i64] [.cells [.lst 1, .int .i64]] a b fun ⟨_, a0, _⟩ ⟨⟨a1, a2, _⟩, _⟩ => (a0, a1, a2)
 args := fun x => [(AV.ptr 0 0), (AV.v (.int .i64 x.1))]
 bs := fun x => [[(AV.list 1 x.2.1 none), (AV.v (.int .i64 x.2.2))]]
 ret := fun y => ⟨(AV.list 25 y.1 (some 2560000000)), [[(AV.list 1 y.2.1 none), (AV.v (.int .i64 y.2.2))]], none, [], [2560000000], [], none⟩
 t := fun x α k => (match zAC N (0, x.1, 0, x.2.1, x.2.2, ([] : List AV)) with | some y11 => (if y11.1 * 25 <= y11.2.2.2.length then (k ((zK (y11.2.2.2.take (y11.1 * 25)) 25 y11.1), y11.2.1, y11.2.2.1)) else none) | none => none)
abbrev zvq (N : Nat) (x : Int × qL × Int) : Option (qL × qL × Int) := (zl6 N).d x
def zcc (N : Nat) : List (Nat × LSpec) := [(5, zdB N), (18, zaM N)]
def zfI : Code := Tryd.f9.body.getD .skip
theorem zoG (N : Nat) : Par (zaM N).b := by
 intro x α β kn ke kn' ke' r r' h h1 h2
 revert h
 dsimp only [zaM]
 (repeat' (first | (with_reducible refine ze ?_ ?_) | split)) <;> intro h <;> first | exact h1 _ h | exact h2 _ h | cases h
theorem zjP (N : Nat) : ji (JT qP [19, 84]) (zzl N) JP N (zcc N) 18 zfI (zaM N) := fun x α kn ke => by kernel_rfl
theorem zen (N : Nat) : ZK qP JP N (zcc N) 18 (zc 18 zfI) :=
 zD (zL qP [19, 84]) (zi _) zl JP N (zcc N) 18 zfI (l := []) (by kernel_rfl) (by kernel_rfl) an (zaM N) rfl (fun s x hc h => by dsimp only [zaM] at h; exact zJ hc h (fun _ _ => rfl) rfl rfl rfl) (fun _ => rfl) (zjP N) (zoG N)
theorem zq8 (N : Nat) : Par (zdB N).b := by
 intro x α β kn ke kn' ke' r r' h h1 h2
 revert h
 dsimp only [zdB]
 (repeat' (first | (with_reducible refine ze ?_ ?_) | split)) <;> intro h <;> first | exact h1 _ h | exact h2 _ h | cases h
theorem zp4 (N : Nat) : ji (JT qP [19, 84]) (zzl N) JP N (zcc N) 5 zfI (zdB N) := fun x α kn ke => by kernel_rfl
theorem zqj (N : Nat) : ZK qP JP N (zcc N) 5 (zc 5 zfI) :=
 zD (zL qP [19, 84]) (zi _) zl JP N (zcc N) 5 zfI (l := [(18, zc 18 zfI)]) (by kernel_rfl) (by kernel_rfl) (al (zen N) an) (zdB N) rfl (fun s x hc h => by dsimp only [zdB] at h; exact zJ hc h (fun _ _ => rfl) rfl rfl rfl) (fun _ => rfl) (zp4 N) (zq8 N)
theorem zuB (N : Nat) : Zd (zl6 N).t := by
 intro x α β k k' r r' h h1
 revert h
 dsimp only [zl6]
 (repeat' (first | (with_reducible refine ze ?_ ?_) | split)) <;> intro h <;> first | exact h1 _ h | cases h
theorem zsi (N : Nat) : Zh (JT qP [19, 84]) (zzl N) JP (lam N (zcc N)) Tryd.f9 (zl6 N) := fun x => by kernel_rfl
def zAP (N : Nat) : Ent qP := zy (zL qP [19, 84]) (zi _) zl 9 Tryd.f9 Tryd.func9 rfl JP (lam N (zcc N)) (zm (l := [(5, zc 5 zfI), (18, zc 18 zfI)]) (al (zqj N) (al (zen N) an)) (by kernel_rfl)) (zl6 N) (fun _ => ⟨rfl, rfl⟩) (zsi N) (fun _ _ _ h => zu h (fun _ _ => rfl) (fun _ _ => rfl)) (zuB N)
def zok : Nat -> Keep × Keep := anL []
def zAg (N : Nat) : GamK := gam (P := qP) [zgv N]
def zf9 (N : Nat) : FSpec where
 X := qL × qL × Int
 Y := ByteArray × qL × Int
 ash := [[none], [some 1]]
 bsh := [[some 1, none]]
 S := ⟨[[none]], [[some 1, none]], [], [], []⟩
 pat := fun a b => rdA [.ptr 0 0, .lst 1] [.cells [.lst 1, .int .i64]] a b fun ⟨_, a0, _⟩ ⟨⟨a1, a2, _⟩, _⟩ => (a0, a1, a2)
 args := fun x => [(AV.ptr 0 0), (AV.list 1 x.1 none)]
 bs := fun x => [[(AV.list 1 x.2.1 none), (AV.v (.int .i64 x.2.2))]]
 ret := fun y => ⟨(AV.v (.string y.1)), [[(AV.list 1 y.2.1 none), (AV.v (.int .i64 y.2.2))]], none, [], [], [], none⟩
 t := fun x α k => (match ja N ((x.1.length : Int), x.2) with | some y1 => (if 0 <= y1.1 then (match x.1[y1.1.toNat]? with | some c2 => (match c2[0]? with | some x3 => (match x3 with | .v (.string s4) => (k (s4, y1.2)) | _ => none) | none => none) | none => none) else none) | none => none)
abbrev zi4 (N : Nat) (x : qL × qL × Int) : Option (ByteArray × qL × Int) := (zf9 N).d x
theorem zmb (N : Nat) : Zd (zf9 N).t := by
 intro x α β k k' r r' h h1
 revert h
 dsimp only [zf9]
 (repeat' (first | (with_reducible refine ze ?_ ?_) | split)) <;> intro h <;> first | exact h1 _ h | cases h
theorem zm6 (N : Nat) : Zh (zn qP) (zAg N) zok (lam N []) Tryd.f27 (zf9 N) := fun x => by kernel_rfl
def zBI (N : Nat) : Ent qP := zy (zd qP) (zi _) zl 27 Tryd.f27 Tryd.func27 rfl zok (lam N []) (zm (l := []) an (by kernel_rfl)) (zf9 N) (fun _ => ⟨rfl, rfl⟩) (zm6 N) (fun _ _ _ h => zu h (fun _ _ => rfl) (fun _ _ => rfl)) (zmb N)
def zcW : Nat -> Keep × Keep := anL [(6, ⟨[0, 1, 4, 6, 7, 8], [], [0, 4, 6], [], [((4, 0), 1)], [], [], [], false, none, [((6, 0), 1)]⟩, ⟨[4, 6, 7], [], [0, 4, 6], [], [((4, 0), 1)], [], [], [], false, none, [((6, 0), 1)]⟩)]
def zBd (N : Nat) : GamK := gam (P := qP) [zgv N, zAP N, zBI N, zCH N, zDT N, zCY N, zDe N, zCG N]
def zcD (N : Nat) : LSpec where
 X := Int × Int × Int × qL × Int × qL × qL
 Y := (Int × qL × Int × qL × qL)
 p := fun s => rdS 111 1 [(0, .ptr 0 0), (1, .int .i64), (4, .ptr 4 0), (6, .ptr 6 0), (7, .int .i64), (8, .int .i64)] [(0, .cells [.lst 1, .int .i64]), (4, .cells [.tok 1 6401048576]), (6, .cells [.lst 1])] s fun ⟨_, a0, _, _, a1, a2, _⟩ ⟨⟨a3, a4, _⟩, ⟨a5, _⟩, ⟨a6, _⟩, _⟩ => (a0, a1, a2, a3, a4, a5, a6)
 st := fun u6 => mkS 111 [(0, (AV.ptr 0 0)), (1, (qI u6.1)), (4, (AV.ptr 4 0)), (6, (AV.ptr 6 0)), (7, (qI u6.2.1)), (8, (qI u6.2.2.1))] [(0, [(AV.list 1 u6.2.2.2.1 none), (qI u6.2.2.2.2.1)]), (4, [(AV.list 1 u6.2.2.2.2.2.1 (some 6401048576))]), (6, [(AV.list 1 u6.2.2.2.2.2.2 none)])] (zcW 6).1.toks 1
 out := fun y => (.exit 0, mkS 111 [(4, (AV.ptr 4 0)), (6, (AV.ptr 6 0)), (7, (qI y.1))] [(0, [(AV.list 1 y.2.1 none), (qI y.2.2.1)]), (4, [(AV.list 1 y.2.2.2.1 (some 6401048576))]), (6, [(AV.list 1 y.2.2.2.2 none)])] (zcW 6).2.toks 1)
 b := fun u6 α kn ke => (match (decide (u6.2.2.1 < u6.1)) with | true => (match ja N (50, u6.2.2.2.1, u6.2.2.2.2.1) with | some y19 => (match ja N ((if (u6.2.2.2.2.2.2.length : Int) > 1 then (u6.2.2.2.2.2.2.length : Int) else 1), y19.2) with | some y20 => (match ja N (8, y20.2) with | some y21 => (match (y21.1 == 0) with | true => (match zvq N (4, y21.2) with | some y22 => (match (decide ((y22.1.length : Int) > 0)) with | true => (match zi4 N ([[(AV.v (.string (⟨#[97, 110, 110]⟩ : ByteArray)))], [(AV.v (.string (⟨#[98, 111, 98]⟩ : ByteArray)))]], y22.2) with | some y23 => (match ja N ((y22.1.length : Int), y23.2) with | some y24 => (if 0 <= y24.1 then (match y22.1[y24.1.toNat]? with | some c25 => (match zju c25 with | some e26 => (match zyS N (u6.2.2.2.2.2.2, y20.1, y23.1, e26, (i64 (u6.2.1 + y19.1))) with | some y27 => (match (y27.2 == 0) with | true => (kn (u6.1, (i64 (u6.2.1 + y19.1)), (i64 (u6.2.2.1 + 1)), y24.2.1, y24.2.2, u6.2.2.2.2.2.1, y27.1)) | false => (kn (u6.1, (i64 (u6.2.1 + y19.1)), (i64 (u6.2.2.1 + 1)), y24.2.1, y24.2.2, u6.2.2.2.2.2))) | none => none) | none => none) | none => none) else none) | none => none) | none => none) | false => (match (0 == 0) with | true => (kn (u6.1, (i64 (u6.2.1 + y19.1)), (i64 (u6.2.2.1 + 1)), y22.2.1, y22.2.2, u6.2.2.2.2.2)) | false => (kn (u6.1, (i64 (u6.2.1 + y19.1)), (i64 (u6.2.2.1 + 1)), y22.2.1, y22.2.2, u6.2.2.2.2.2)))) | none => none) | false => (match (y21.1 == 1) with | true => (match zi4 N ([[(AV.v (.string (⟨#[97, 110, 110]⟩ : ByteArray)))], [(AV.v (.string (⟨#[98, 111, 98]⟩ : ByteArray)))]], y21.2) with | some y28 => (match zyY N (u6.2.2.2.2.2.2, y20.1, y28.1, (i64 (u6.2.1 + y19.1))) with | some y29 => (match (y29.2 == 0) with | true => (kn (u6.1, (i64 (u6.2.1 + y19.1)), (i64 (u6.2.2.1 + 1)), y28.2.1, y28.2.2, u6.2.2.2.2.2.1, y29.1)) | false => (kn (u6.1, (i64 (u6.2.1 + y19.1)), (i64 (u6.2.2.1 + 1)), y28.2.1, y28.2.2, u6.2.2.2.2.2))) | none => none) | none => none) | false => (match (y21.1 == 2) with | true => (match ja N ((if (u6.2.2.2.2.2.2.length : Int) > 1 then (u6.2.2.2.2.2.2.length : Int) else 1), y21.2) with | some y30 => (match zi4 N ([[(AV.v (.string (⟨#[97, 110, 110]⟩ : ByteArray)))], [(AV.v (.string (⟨#[98, 111, 98]⟩ : ByteArray)))]], y30.2) with | some y31 => (match zzP N (u6.2.2.2.2.2.2, y20.1, y30.1, y31.1, (i64 (u6.2.1 + y19.1))) with | some y32 => (match (y32.2 == 0) with | true => (kn (u6.1, (i64 (u6.2.1 + y19.1)), (i64 (u6.2.2.1 + 1)), y31.2.1, y31.2.2, u6.2.2.2.2.2.1, y32.1)) | false => (kn (u6.1, (i64 (u6.2.1 + y19.1)), (i64 (u6.2.2.1 + 1)), y31.2.1, y31.2.2, u6.2.2.2.2.2))) | none => none) | none => none) | none => none) | false => (match (y21.1 == 3) with | true => (match zi4 N ([[(AV.v (.string (⟨#[97, 110, 110]⟩ : ByteArray)))], [(AV.v (.string (⟨#[98, 111, 98]⟩ : ByteArray)))]], y21.2) with | some y33 => (match zyp N (u6.2.2.2.2.2.2, y20.1, y33.1, (i64 (u6.2.1 + y19.1))) with | some y34 => (match (y34.2 == 0) with | true => (kn (u6.1, (i64 (u6.2.1 + y19.1)), (i64 (u6.2.2.1 + 1)), y33.2.1, y33.2.2, u6.2.2.2.2.2.1, y34.1)) | false => (kn (u6.1, (i64 (u6.2.1 + y19.1)), (i64 (u6.2.2.1 + 1)), y33.2.1, y33.2.2, u6.2.2.2.2.2))) | none => none) | none => none) | false => (match zvq N (4, y21.2) with | some y35 => (match zvG N (u6.2.2.2.2.2.2, y35.1, (i64 (u6.2.1 + y19.1))) with | some y36 => (match (y36.2.2 == 0) with | true => (kn (u6.1, (i64 (u6.2.1 + y19.1)), (i64 (u6.2.2.1 + 1)), y35.2.1, y35.2.2, u6.2.2.2.2.2.1, y36.1)) | false => (kn (u6.1, (i64 (u6.2.1 + y19.1)), (i64 (u6.2.2.1 + 1)), y35.2.1, y35.2.2, u6.2.2.2.2.2))) | none => none) | none => none))))) | none => none) | none => none) | none => none) | false => (ke (u6.2.1, u6.2.2.2)))
abbrev zB9 (N : Nat) (x : Int × Int × Int × qL × Int × qL × qL) : Option ((Int × qL × Int × qL × qL)) := (zcD N).L N x
def znu (N : Nat) : FSpec where
 X := Int × qL × Int
 Y := qL × Int × qL × Int
 ash := [[none], [none]]
 bsh := [[some 1, none]]
 S := ⟨[[some 1], [none]], [[some 1, none]], [], [], []⟩
 pat := fun a b => rdA [.ptr 0 0, .int .i64] [.cells [.lst 1, .int .i64]] a b fun ⟨_, a0, _⟩ ⟨⟨a1, a2, _⟩, _⟩ => (a0, a1, a2)
 args := fun x => [(AV.ptr 0 0), (AV.v (.int .i64 x.1))]
 bs := fun x => [[(AV.list 1 x.2.1 none), (AV.v (.int .i64 x.2.2))]]
 ret := fun y => ⟨(AV.tup [(AV.agg [(AV.list 1 y.1 none)]), (AV.v (.int .i64 y.2.1))]), [[(AV.list 1 y.2.2.1 none), (AV.v (.int .i64 y.2.2.2))]], none, [], [], [], none⟩
 t := fun x α k => (match zB9 N (x.1, 100, 0, x.2.1, x.2.2, ([] : qL), ([] : qL)) with | some y37 => (k (y37.2.2.2.2, y37.1, y37.2.1, y37.2.2.1)) | none => none)
abbrev zBP (N : Nat) (x : Int × qL × Int) : Option (qL × Int × qL × Int) := (znu N).d x
def zhh (N : Nat) : List (Nat × LSpec) := [(6, zcD N)]
def zrP : Code := Tryd.f7.body.getD .skip
theorem zrg (N : Nat) : Par (zcD N).b := by
 intro x α β kn ke kn' ke' r r' h h1 h2
 revert h
 dsimp only [zcD]
 (repeat' (first | (with_reducible refine ze ?_ ?_) | split)) <;> intro h <;> first | exact h1 _ h | exact h2 _ h | cases h
theorem zmz (N : Nat) : ji (zn qP) (zBd N) zcW N (zhh N) 6 zrP (zcD N) := fun x α kn ke => by kernel_rfl
theorem zoq (N : Nat) : ZK qP zcW N (zhh N) 6 (zc 6 zrP) :=
 zD (zd qP) (zi _) zl zcW N (zhh N) 6 zrP (l := []) (by kernel_rfl) (by kernel_rfl) an (zcD N) rfl (fun s x hc h => by dsimp only [zcD] at h; exact zJ hc h (fun _ _ => rfl) rfl rfl rfl) (fun _ => rfl) (zmz N) (zrg N)
theorem zu3 (N : Nat) : Zd (znu N).t := by
 intro x α β k k' r r' h h1
 revert h
 dsimp only [znu]
 (repeat' (first | (with_reducible refine ze ?_ ?_) | split)) <;> intro h <;> first | exact h1 _ h | cases h
theorem zsD (N : Nat) : Zh (zn qP) (zBd N) zcW (lam N (zhh N)) Tryd.f7 (znu N) := fun x => by kernel_rfl
def zDQ (N : Nat) : Ent qP := zy (zd qP) (zi _) zl 7 Tryd.f7 Tryd.func7 rfl zcW (lam N (zhh N)) (zm (l := [(6, zc 6 zrP)]) (al (zoq N) an) (by kernel_rfl)) (znu N) (fun _ => ⟨rfl, rfl⟩) (zsD N) (fun _ _ _ h => zu h (fun _ _ => rfl) (fun _ _ => rfl)) (zu3 N)
def zwB : Nat -> Keep × Keep := anL []
def zC4 (N : Nat) : GamK := gam (P := qP) [zrt N]
def zfO (N : Nat) : FSpec where
 X := qL × Int × ByteArray × Int
 Y := qL × Int
 ash := [[some 1], [none], [none], [none]]
 S := ⟨[[some 1], [none]], [], [], [], []⟩
 pat := fun a b => zk a fun v1 c2 => jg v1 fun c3 => zk c3 fun c4 c5 => Z3 1 c4 fun a0 => zQ c5 <| zk c2 fun v6 c7 => jQ .i64 v6 fun a1 => zk c7 fun v8 c9 => zlT v8 fun a2 => zk c9 fun v10 c11 => jQ .i64 v10 fun a3 => zQ c11 <| zQ b <| some (a0, a1, a2, a3)
 args := fun x => [(AV.agg [(AV.list 1 x.1 none)]), (AV.v (.int .i64 x.2.1)), (AV.v (.string x.2.2.1)), (AV.v (.int .i64 x.2.2.2))]
 ret := fun y => ⟨(AV.tup [(AV.agg [(AV.list 1 y.1 none)]), (AV.v (.int .i64 y.2))]), [], none, [], [], [], none⟩
 t := fun x α k => (match Jy N (x.1, x.2.1, (6, x.2.2.2, x.2.2.1, 0, (⟨#[]⟩ : ByteArray), (⟨#[]⟩ : ByteArray), (⟨#[]⟩ : ByteArray), (⟨#[]⟩ : ByteArray), 0, 0, 0, 0, 0, ([] : qL), 0, 0, 0, 0, 0, 0, 0, 0, 0, 0, 0, 0, 0, 0, 0, ())) with | some y1 => (k y1) | none => none)
abbrev zcG (N : Nat) (x : qL × Int × ByteArray × Int) : Option (qL × Int) := (zfO N).d x
theorem zqF (N : Nat) : Zd (zfO N).t := by
 intro x α β k k' r r' h h1
 revert h
 dsimp only [zfO]
 (repeat' (first | (with_reducible refine ze ?_ ?_) | split)) <;> intro h <;> first | exact h1 _ h | cases h
theorem zug (N : Nat) : Zh (zn qP) (zC4 N) zwB (lam N []) Tryd.f25 (zfO N) := fun x => by kernel_rfl
theorem zy6 (N : Nat) (a : List AV) (b : qL) (x : (zfO N).X) (h : (zfO N).pat a b = some x) : a = (zfO N).args x /\ b = (zfO N).bs x := by
 obtain ⟨v1, c2, rfl, g0⟩ := zb (show zk _ _ = some x from h)
 obtain ⟨c3, rfl, g1⟩ := zR g0; clear g0
 obtain ⟨c4, c5, rfl, g2⟩ := zb g1; clear g1
 obtain ⟨a0, rfl, g3⟩ := zr g2; clear g2
 obtain ⟨rfl, g4⟩ := zg g3; clear g3
 obtain ⟨v6, c7, rfl, g5⟩ := zb g4; clear g4
 obtain ⟨a1, rfl, g6⟩ := zC g5; clear g5
 obtain ⟨v8, c9, rfl, g7⟩ := zb g6; clear g6
 obtain ⟨a2, rfl, g8⟩ := JJ g7; clear g7
 obtain ⟨v10, c11, rfl, g9⟩ := zb g8; clear g8
 obtain ⟨a3, rfl, g10⟩ := zC g9; clear g9
 obtain ⟨rfl, g11⟩ := zg g10; clear g10
 obtain ⟨rfl, g12⟩ := zg g11; clear g11
 clear h
 cases g12
 exact ⟨rfl, rfl⟩
def zDx (N : Nat) : Ent qP := zy (zd qP) (zi _) zl 25 Tryd.f25 Tryd.func25 rfl zwB (lam N []) (zm (l := []) an (by kernel_rfl)) (zfO N) (fun _ => ⟨rfl, rfl⟩) (zug N) (zy6 N) (zqF N)
def zw0 : Nat -> Keep × Keep := anL []
def zDy (N : Nat) : GamK := gam (P := qP) [zrt N]
def ze0 (N : Nat) : FSpec where
 X := qL × Int × ByteArray × Int
 Y := qL × Int
 ash := [[some 1], [none], [none], [none]]
 S := ⟨[[some 1], [none]], [], [], [], []⟩
 pat := fun a b => zk a fun v1 c2 => jg v1 fun c3 => zk c3 fun c4 c5 => Z3 1 c4 fun a0 => zQ c5 <| zk c2 fun v6 c7 => jQ .i64 v6 fun a1 => zk c7 fun v8 c9 => zlT v8 fun a2 => zk c9 fun v10 c11 => jQ .i64 v10 fun a3 => zQ c11 <| zQ b <| some (a0, a1, a2, a3)
 args := fun x => [(AV.agg [(AV.list 1 x.1 none)]), (AV.v (.int .i64 x.2.1)), (AV.v (.string x.2.2.1)), (AV.v (.int .i64 x.2.2.2))]
 ret := fun y => ⟨(AV.tup [(AV.agg [(AV.list 1 y.1 none)]), (AV.v (.int .i64 y.2))]), [], none, [], [], [], none⟩
 t := fun x α k => (match Jy N (x.1, x.2.1, (4, x.2.2.2, x.2.2.1, 0, (⟨#[]⟩ : ByteArray), (⟨#[]⟩ : ByteArray), (⟨#[]⟩ : ByteArray), (⟨#[]⟩ : ByteArray), 0, 0, 0, 0, 0, ([] : qL), 0, 0, 0, 0, 0, 0, 0, 0, 0, 0, 0, 0, 0, 0, 0, ())) with | some y1 => (k y1) | none => none)
abbrev zzH (N : Nat) (x : qL × Int × ByteArray × Int) : Option (qL × Int) := (ze0 N).d x
theorem zqA (N : Nat) : Zd (ze0 N).t := by
 intro x α β k k' r r' h h1
 revert h
 dsimp only [ze0]
 (repeat' (first | (with_reducible refine ze ?_ ?_) | split)) <;> intro h <;> first | exact h1 _ h | cases h
theorem ztL (N : Nat) : Zh (zn qP) (zDy N) zw0 (lam N []) Tryd.f23 (ze0 N) := fun x => by kernel_rfl
theorem zyQ (N : Nat) (a : List AV) (b : qL) (x : (ze0 N).X) (h : (ze0 N).pat a b = some x) : a = (ze0 N).args x /\ b = (ze0 N).bs x := by
 obtain ⟨v1, c2, rfl, g0⟩ := zb (show zk _ _ = some x from h)
 obtain ⟨c3, rfl, g1⟩ := zR g0; clear g0
 obtain ⟨c4, c5, rfl, g2⟩ := zb g1; clear g1
 obtain ⟨a0, rfl, g3⟩ := zr g2; clear g2
 obtain ⟨rfl, g4⟩ := zg g3; clear g3
 obtain ⟨v6, c7, rfl, g5⟩ := zb g4; clear g4
 obtain ⟨a1, rfl, g6⟩ := zC g5; clear g5
 obtain ⟨v8, c9, rfl, g7⟩ := zb g6; clear g6
 obtain ⟨a2, rfl, g8⟩ := JJ g7; clear g7
 obtain ⟨v10, c11, rfl, g9⟩ := zb g8; clear g8
 obtain ⟨a3, rfl, g10⟩ := zC g9; clear g9
 obtain ⟨rfl, g11⟩ := zg g10; clear g10
 obtain ⟨rfl, g12⟩ := zg g11; clear g11
 clear h
 cases g12
 exact ⟨rfl, rfl⟩
def zEz (N : Nat) : Ent qP := zy (zd qP) (zi _) zl 23 Tryd.f23 Tryd.func23 rfl zw0 (lam N []) (zm (l := []) an (by kernel_rfl)) (ze0 N) (fun _ => ⟨rfl, rfl⟩) (ztL N) (zyQ N) (zqA N)
def zxc : Nat -> Keep × Keep := anL []
def zCA (N : Nat) : GamK := gam (P := qP) [zrt N]
def zfv (N : Nat) : FSpec where
 X := qL × Int × Int × ByteArray × Int
 Y := qL × Int
 ash := [[some 1], [none], [none], [none], [none]]
 S := ⟨[[some 1], [none]], [], [], [], []⟩
 pat := fun a b => zk a fun v1 c2 => jg v1 fun c3 => zk c3 fun c4 c5 => Z3 1 c4 fun a0 => zQ c5 <| zk c2 fun v6 c7 => jQ .i64 v6 fun a1 => zk c7 fun v8 c9 => jQ .i64 v8 fun a2 => zk c9 fun v10 c11 => zlT v10 fun a3 => zk c11 fun v12 c13 => jQ .i64 v12 fun a4 => zQ c13 <| zQ b <| some (a0, a1, a2, a3, a4)
 args := fun x => [(AV.agg [(AV.list 1 x.1 none)]), (AV.v (.int .i64 x.2.1)), (AV.v (.int .i64 x.2.2.1)), (AV.v (.string x.2.2.2.1)), (AV.v (.int .i64 x.2.2.2.2))]
 ret := fun y => ⟨(AV.tup [(AV.agg [(AV.list 1 y.1 none)]), (AV.v (.int .i64 y.2))]), [], none, [], [], [], none⟩
 t := fun x α k => (match Jy N (x.1, x.2.1, (5, x.2.2.2.2, x.2.2.2.1, x.2.2.1, (⟨#[]⟩ : ByteArray), (⟨#[]⟩ : ByteArray), (⟨#[]⟩ : ByteArray), (⟨#[]⟩ : ByteArray), 0, 0, 0, 0, 0, ([] : qL), 0, 0, 0, 0, 0, 0, 0, 0, 0, 0, 0, 0, 0, 0, 0, ())) with | some y1 => (k y1) | none => none)
abbrev zzG (N : Nat) (x : qL × Int × Int × ByteArray × Int) : Option (qL × Int) := (zfv N).d x
theorem zuI (N : Nat) : Zd (zfv N).t := by
 intro x α β k k' r r' h h1
 revert h
 dsimp only [zfv]
 (repeat' (first | (with_reducible refine ze ?_ ?_) | split)) <;> intro h <;> first | exact h1 _ h | cases h
theorem zrH (N : Nat) : Zh (zn qP) (zCA N) zxc (lam N []) Tryd.f24 (zfv N) := fun x => by kernel_rfl
theorem zxA (N : Nat) (a : List AV) (b : qL) (x : (zfv N).X) (h : (zfv N).pat a b = some x) : a = (zfv N).args x /\ b = (zfv N).bs x := by
 obtain ⟨v1, c2, rfl, g0⟩ := zb (show zk _ _ = some x from h)
 obtain ⟨c3, rfl, g1⟩ := zR g0; clear g0
 obtain ⟨c4, c5, rfl, g2⟩ := zb g1; clear g1
 obtain ⟨a0, rfl, g3⟩ := zr g2; clear g2
 obtain ⟨rfl, g4⟩ := zg g3; clear g3
 obtain ⟨v6, c7, rfl, g5⟩ := zb g4; clear g4
 obtain ⟨a1, rfl, g6⟩ := zC g5; clear g5
 obtain ⟨v8, c9, rfl, g7⟩ := zb g6; clear g6
 obtain ⟨a2, rfl, g8⟩ := zC g7; clear g7
 obtain ⟨v10, c11, rfl, g9⟩ := zb g8; clear g8
 obtain ⟨a3, rfl, g10⟩ := JJ g9; clear g9
 obtain ⟨v12, c13, rfl, g11⟩ := zb g10; clear g10
 obtain ⟨a4, rfl, g12⟩ := zC g11; clear g11
 obtain ⟨rfl, g13⟩ := zg g12; clear g12
 obtain ⟨rfl, g14⟩ := zg g13; clear g13
 clear h
 cases g14
 exact ⟨rfl, rfl⟩
def zEe (N : Nat) : Ent qP := zy (zd qP) (zi _) zl 24 Tryd.f24 Tryd.func24 rfl zxc (lam N []) (zm (l := []) an (by kernel_rfl)) (zfv N) (fun _ => ⟨rfl, rfl⟩) (zrH N) (zxA N) (zuI N)
def zg7 : Nat -> Keep × Keep := anL [(26, qK [5, 7, 8, 10, 12, 13] [] [10, 22], qK [4, 7, 8, 10, 12] [] [10])]
def zEE (N : Nat) : GamK := gam (P := qP) [F6_e N, zgv N, zDQ N, zD6 N, zAf N, zzI N, zAI N, zAP N, zCi N, zDx N, zEz N, zEe N]
def jG (N : Nat) : LSpec where
 X := Int × Int × Int × Int × qL × qL × Int
 Y := (Bool × Int × Int × Int × qL) ⊕ (Int × Int × Int × qL)
 p := fun s => rdS 174 0 [(5, .ptr 22 0), (7, .int .i64), (8, .int .i64), (10, .ptr 10 0), (12, .int .i64), (13, .int .i64)] [(10, .cells [.lst 1]), (22, .cells [.lst 1, .int .i64])] s fun ⟨_, a0, a1, _, a2, a3, _⟩ ⟨⟨a4, _⟩, ⟨a5, a6, _⟩, _⟩ => (a0, a1, a2, a3, a4, a5, a6)
 st := fun u26 => mkS 174 [(5, (AV.ptr 22 0)), (7, (qI u26.1)), (8, (qI u26.2.1)), (10, (AV.ptr 10 0)), (12, (qI u26.2.2.1)), (13, (qI u26.2.2.2.1))] [(10, [(AV.list 1 u26.2.2.2.2.1 none)]), (22, [(AV.list 1 u26.2.2.2.2.2.1 none), (qI u26.2.2.2.2.2.2)])] (zg7 26).1.toks 0
 out := fun y => match y with
  | .inl y => (.ret, mkS 174 [(4, (AV.v (.bool y.1))), (7, (qI y.2.1)), (8, (qI y.2.2.1)), (10, (AV.ptr 10 0)), (12, (qI y.2.2.2.1))] [(10, [(AV.list 1 y.2.2.2.2 none)])] (zg7 26).2.toks 0)
  | .inr y => (.exit 1, mkS 174 [(7, (qI y.1)), (8, (qI y.2.1)), (10, (AV.ptr 10 0)), (12, (qI y.2.2.1))] [(10, [(AV.list 1 y.2.2.2 none)])] (zg7 26).2.toks 0)
 b := fun u26 α kn ke => (match (decide (u26.2.2.2.1 < 3)) with | true => (match zvq N (4, u26.2.2.2.2.2) with | some y17 => (match zlo N (u26.2.2.2.2.1, y17.1, (i64 (u26.1 + 10))) with | some y18 => (match (y18.2.2 != 0) with | true => (ke (.inl (false, (i64 (u26.1 + 10)), u26.2.1, u26.2.2.1, u26.2.2.2.2.1))) | false => (match (decide ((y18.1.length : Int) < (u26.2.2.2.2.1.length : Int))) with | true => (ke (.inl (false, (i64 (u26.1 + 10)), u26.2.1, u26.2.2.1, u26.2.2.2.2.1))) | false => (match (decide ((y18.1.length : Int) <= u26.2.1)) with | true => (ke (.inl (false, (i64 (u26.1 + 10)), u26.2.1, u26.2.2.1, u26.2.2.2.2.1))) | false => (if 0 <= u26.2.1 then (match y18.1[u26.2.1.toNat]? with | some c19 => (match (c19.drop 0)[0]? with | some x20 => (match Z1 29 x20 with | some l21 => (match ((l21.length : Int) != u26.2.2.1) with | true => (ke (.inl (false, (i64 (u26.1 + 10)), u26.2.1, u26.2.2.1, u26.2.2.2.2.1))) | false => (kn ((i64 (u26.1 + 10)), u26.2.1, u26.2.2.1, (i64 (u26.2.2.2.1 + 1)), y18.1, y17.2))) | none => none) | none => none) | none => none) else none)))) | none => none) | none => none) | false => (ke (.inr (u26.1, u26.2.1, u26.2.2.1, u26.2.2.2.2.1))))
abbrev zgT (N : Nat) (x : Int × Int × Int × Int × qL × qL × Int) : Option ((Bool × Int × Int × Int × qL) ⊕ (Int × Int × Int × qL)) := (jG N).L N x
def zzR (N : Nat) : FSpec where
 X := qL × Int
 Y := Bool
 ash := [[some 1], [none]]
 S := ⟨[[none]], [], [], [], []⟩
 pat := fun a b => rdA [.lst 1, .int .i64] [] a b fun ⟨a0, a1, _⟩ _ => (a0, a1)
 args := fun x => [(AV.list 1 x.1 none), (AV.v (.int .i64 x.2))]
 ret := fun y => ⟨(AV.v (.bool y)), [], none, [], [], [], none⟩
 t := fun x α k => (match zDH N x.1 with | some y1 => (match ja N (6, y1) with | some y2 => (match zBP N ((i64 (2 + y2.1)), y2.2) with | some y3 => (match (decide ((y3.1.length : Int) < 2)) with | true => (match zoD N () with | some y4 => (k y4) | none => none) | false => (match ja N ((y3.1.length : Int), y3.2.2) with | some y5 => (match zqi N (3, y5.2) with | some y6 => (match zjV N (x.2, 3) with | some y7 => (match (y7 == 0) with | true => (match zsR N (y3.1, y5.1, (⟨#[97, 110, 110]⟩ : ByteArray), y6.1, y3.2.1) with | some y8 => (match (y8.2 != 0) with | true => (k false) | false => (if 0 <= y5.1 then (match y3.1[y5.1.toNat]? with | some c9 => (match (c9.drop 0)[0]? with | some x10 => (match Z1 29 x10 with | some l11 => (match zgT N (y3.2.1, y5.1, (i64 ((l11.length : Int) + 1)), 0, y8.1, y6.2) with | some y22 => (match y22 with | .inl z23 => (k z23.1) | .inr z24 => (match zcG N (z24.2.2.2, z24.2.1, (⟨#[98, 111, 98]⟩ : ByteArray), z24.1) with | some y25 => (match zcG N (y25.1, z24.2.1, (⟨#[98, 111, 98]⟩ : ByteArray), z24.1) with | some y26 => (match (y25.2 == 0) with | true => (match (y26.2 == 10) with | true => (match (decide ((y25.1.length : Int) > z24.2.1)) with | true => (if 0 <= z24.2.1 then (match y25.1[z24.2.1.toNat]? with | some c27 => (match (c27.drop 0)[0]? with | some x28 => (match Z1 29 x28 with | some l29 => (match ((l29.length : Int) == (i64 (z24.2.2.1 + 1))) with | true => (match zoD N () with | some y30 => (k y30) | none => none) | false => (k false)) | none => none) | none => none) | none => none) else none) | false => (k false)) | false => (k false)) | false => (k false)) | none => none) | none => none)) | none => none) | none => none) | none => none) | none => none) else none)) | none => none) | false => (match (y7 == 1) with | true => (match zzH N (y3.1, y5.1, (⟨#[97, 110, 110]⟩ : ByteArray), y3.2.1) with | some y31 => (match (y31.2 != 0) with | true => (k false) | false => (if 0 <= y5.1 then (match y3.1[y5.1.toNat]? with | some c32 => (match (c32.drop 0)[0]? with | some x33 => (match Z1 29 x33 with | some l34 => (match zgT N (y3.2.1, y5.1, (i64 ((l34.length : Int) + 1)), 0, y31.1, y6.2) with | some y35 => (match y35 with | .inl z36 => (k z36.1) | .inr z37 => (match zcG N (z37.2.2.2, z37.2.1, (⟨#[98, 111, 98]⟩ : ByteArray), z37.1) with | some y38 => (match zcG N (y38.1, z37.2.1, (⟨#[98, 111, 98]⟩ : ByteArray), z37.1) with | some y39 => (match (y38.2 == 0) with | true => (match (y39.2 == 10) with | true => (match (decide ((y38.1.length : Int) > z37.2.1)) with | true => (if 0 <= z37.2.1 then (match y38.1[z37.2.1.toNat]? with | some c40 => (match (c40.drop 0)[0]? with | some x41 => (match Z1 29 x41 with | some l42 => (match ((l42.length : Int) == (i64 (z37.2.2.1 + 1))) with | true => (match zoD N () with | some y43 => (k y43) | none => none) | false => (k false)) | none => none) | none => none) | none => none) else none) | false => (k false)) | false => (k false)) | false => (k false)) | none => none) | none => none)) | none => none) | none => none) | none => none) | none => none) else none)) | none => none) | false => (if (y3.1.length : Int) = 0 then none else (match zzG N (y3.1, y5.1, ((i64 (y5.1 + 1)).tmod (y3.1.length : Int)), (⟨#[97, 110, 110]⟩ : ByteArray), y3.2.1) with | some y44 => (match (y44.2 != 0) with | true => (k false) | false => (if 0 <= y5.1 then (match y3.1[y5.1.toNat]? with | some c45 => (match (c45.drop 0)[0]? with | some x46 => (match Z1 29 x46 with | some l47 => (match zgT N (y3.2.1, y5.1, (i64 ((l47.length : Int) + 1)), 0, y44.1, y6.2) with | some y48 => (match y48 with | .inl z49 => (k z49.1) | .inr z50 => (match zcG N (z50.2.2.2, z50.2.1, (⟨#[98, 111, 98]⟩ : ByteArray), z50.1) with | some y51 => (match zcG N (y51.1, z50.2.1, (⟨#[98, 111, 98]⟩ : ByteArray), z50.1) with | some y52 => (match (y51.2 == 0) with | true => (match (y52.2 == 10) with | true => (match (decide ((y51.1.length : Int) > z50.2.1)) with | true => (if 0 <= z50.2.1 then (match y51.1[z50.2.1.toNat]? with | some c53 => (match (c53.drop 0)[0]? with | some x54 => (match Z1 29 x54 with | some l55 => (match ((l55.length : Int) == (i64 (z50.2.2.1 + 1))) with | true => (match zoD N () with | some y56 => (k y56) | none => none) | false => (k false)) | none => none) | none => none) | none => none) else none) | false => (k false)) | false => (k false)) | false => (k false)) | none => none) | none => none)) | none => none) | none => none) | none => none) | none => none) else none)) | none => none)))) | none => none) | none => none) | none => none)) | none => none) | none => none) | none => none)
abbrev zEG (N : Nat) (x : qL × Int) : Option (Bool) := (zzR N).d x
def zo5 (N : Nat) : List (Nat × LSpec) := [(26, jG N)]
def zCw : Code := Tryd.f5.body.getD .skip
theorem ztK (N : Nat) : Par (jG N).b := by
 intro x α β kn ke kn' ke' r r' h h1 h2
 revert h
 dsimp only [jG]
 (repeat' (first | (with_reducible refine ze ?_ ?_) | split)) <;> intro h <;> first | exact h1 _ h | exact h2 _ h | cases h
theorem zoI (N : Nat) : ji (zn qP) (zEE N) zg7 N (zo5 N) 26 zCw (jG N) := fun x α kn ke => by kernel_rfl
theorem zoj (N : Nat) : ZK qP zg7 N (zo5 N) 26 (zc 26 zCw) :=
 zD (zd qP) (zi _) zl zg7 N (zo5 N) 26 zCw (l := []) (by kernel_rfl) (by kernel_rfl) an (jG N) rfl (fun s x hc h => by dsimp only [jG] at h; exact zJ hc h (fun _ _ => rfl) rfl rfl rfl) (fun _ => rfl) (zoI N) (ztK N)
theorem zxK (N : Nat) : Zd (zzR N).t := by
 intro x α β k k' r r' h h1
 revert h
 dsimp only [zzR]
 (repeat' (first | (with_reducible refine ze ?_ ?_) | split)) <;> intro h <;> first | exact h1 _ h | cases h
theorem zyx (N : Nat) : Zh (zn qP) (zEE N) zg7 (lam N (zo5 N)) Tryd.f5 (zzR N) := fun x => by kernel_rfl
def F5_e (N : Nat) : Ent qP := zy (zd qP) (zi _) zl 5 Tryd.f5 Tryd.func5 rfl zg7 (lam N (zo5 N)) (zm (l := [(26, zc 26 zCw)]) (al (zoj N) an) (by kernel_rfl)) (zzR N) (fun _ => ⟨rfl, rfl⟩) (zyx N) (fun _ _ _ h => zu h (fun _ _ => rfl) (fun _ _ => rfl)) (zxK N)
end
end Go.Proofs.YthdgnfcbehcplaaDoor
end
section
namespace Go.Proofs.YthdgnfcbehcplaaDoor
theorem dF {p : Prop} [Decidable p] (h : ¬ p) : decide p = false := decide_eq_false h
theorem dT {p : Prop} [Decidable p] (h : p) : decide p = true := decide_eq_true h
theorem pS {d f : Nat} (h : d < f) : ∃ f', f = f' + 1 := ⟨f - 1, by omega⟩
def zA (xs : List Int) : List (List AV) := xs.map fun x => [I x]
theorem zX {x : Int} (h : -9223372036854775808 <= x /\ x <= 9223372036854775807) : i64 x = x := IntWalk.i64_in _ (by omega)
theorem jU (xs : List Int) : (zA xs).length = xs.length := by simp [zA]
theorem zdm (xs : List Int) (k : Nat) (h : k < xs.length) : (zA xs)[k]? = some [I xs[k]] := by simp [zA, h]
structure Sc (xs : List Int) (p : Int) : Prop where
 l : xs.length <= 2000
 p0 : 0 <= p
 p1 : p <= xs.length
theorem zAZ (N : Nat) {xs : List Int} {p : Int} (D : Sc xs p) : ∃ v p', zzK N (zA xs, p) = some (v, zA xs, p') /\ Sc xs p' := by
 obtain ⟨l, p0, p1⟩ := D
 simp only [zzK, FSpec.d, zBa]
 by_cases h : p >= ((zA xs).length : Int)
 ·simp only [h, decide_true]
  exact ⟨0, p, rfl, ⟨l, p0, p1⟩⟩
 ·have h0 := h
  rw [jU] at h0
  have h2 : p.toNat < xs.length := by omega
  have hp : i64 (p + 1) = p + 1 := zX (by omega)
  have hq : i64 (p + 1 - 1) = p := by rw [zX (by omega)]; omega
  simp only [h, decide_false, hp, hq, p0, if_true, zdm xs _ h2, List.getElem?_cons_zero]
  exact ⟨_, _, rfl, ⟨l, by omega, by omega⟩⟩
theorem zww (N : Nat) (v : Int) {n : Int} (hn : 1 <= n /\ n <= 1000000) : ∃ r, zjV N (v, n) = some r /\ 0 <= r /\ r < n := by
 simp only [zjV, FSpec.d, zjN]
 have h1 : ¬ n < 1 := by omega
 have h3 : ¬ n = 0 := by omega
 simp only [h1, decide_false, h3, if_false]
 by_cases hneg : v.tmod n < 0
 ·simp only [hneg, decide_true]
  have t1 : -n < v.tmod n := by
   have := Int.tmod_lt_of_pos (-v) (show 0 < n by omega)
   rw [Int.neg_tmod] at this
   omega
  rw [zX (by omega)]
  exact ⟨_, rfl, by omega, by omega⟩
 ·simp only [hneg, decide_false]
  have t1 := Int.tmod_lt_of_pos v (show 0 < n by omega)
  exact ⟨_, rfl, by omega, by omega⟩
theorem zaP (N : Nat) {n : Int} {xs : List Int} {p : Int} (hn : 1 <= n /\ n <= 1000000) (D : Sc xs p) : ∃ v p', zdw N (n, zA xs, p) = some (v, zA xs, p') /\ (0 <= v /\ v < n) /\ Sc xs p' := by
 obtain ⟨v, p', h1, h2⟩ := zAZ N D
 obtain ⟨r, h3, h4⟩ := zww N v hn
 refine ⟨r, p', ?_, h4, h2⟩
 simp only [zdw, FSpec.d, zEK]
 simp only [h1, h3]
theorem zpB (N : Nat) (O : List Int) {xs : List Int} {p : Int} (hO : 1 <= O.length /\ O.length <= 1000) (D : Sc xs p) : ∃ v p', zlf N (zA O, zA xs, p) = some (v, zA xs, p') /\ v ∈ O /\ Sc xs p' := by
 simp only [zlf, FSpec.d, zAt]
 obtain ⟨v, p', h1, h2, h3⟩ := zaP N (n := (O.length : Int)) (by omega) D
 rw [jU, h1]
 have h4 : v.toNat < O.length := by omega
 simp only [h2.1, if_true, zdm O _ h4, List.getElem?_cons_zero]
 exact ⟨_, _, rfl, List.getElem_mem h4, h3⟩
theorem zAV (N : Nat) (xs : List Int) : zDH N (zA xs) = some (zA (xs.take 2000), 0) /\ Sc (xs.take 2000) 0 := by
 refine ⟨?_, ⟨by simp; omega, by omega, by omega⟩⟩
 simp only [zDH, FSpec.d, zzS, jU]
 by_cases h : 2000 < (xs.length : Int)
 ·have h2 : (0 <= (2000 : Int) /\ (2000 : Int) <= xs.length) := by omega
  simp only [h, if_true, h2, and_self]
  simp [zA]
 ·have h2 : (0 <= (xs.length : Int) /\ (xs.length : Int) <= xs.length) := by omega
  simp only [h, if_false, h2, and_self, if_true]
  rw [List.take_of_length_le (by rw [jU]; omega), List.take_of_length_le (by omega)]
section
variable {T : Type} (en : T -> List AV) (n : Nat) (hl : ∀ e, (en e).length = n)
def fl (L : List T) : List AV := (L.map en).flatten
include hl
theorem zcd (L : List T) : (fl en L).length = L.length * n := by
 induction L with
 | nil => simp [fl]
 | cons a L ih =>
  show ((en a) ++ fl en L).length = _
  rw [List.length_append, ih, hl, List.length_cons, Nat.succ_mul, Nat.add_comm]
theorem ziw : ∀ (L : List T) (i j : Nat) (h : i < L.length), j <= n -> (fl en L).drop (i * n + j) = (en L[i]).drop j ++ fl en (L.drop (i + 1))
 | a :: L, 0, j, h, hj => by
  show ((en a) ++ fl en L).drop (0 * n + j) = _
  rw [Nat.zero_mul, Nat.zero_add, List.drop_append_of_le_length (by rw [hl]; exact hj)]
  rfl
 | a :: L, i + 1, j, h, hj => by
  show ((en a) ++ fl en L).drop ((i + 1) * n + j) = _
  have e : (i + 1) * n + j = (en a).length + (i * n + j) := by rw [hl, Nat.succ_mul]; omega
  rw [e, List.drop_append, List.drop_eq_nil_of_le (by omega), Nat.add_sub_cancel_left, List.nil_append, ziw L i j (by simpa using h) hj]
  rfl
theorem zwq (L : List T) (i j : Nat) (h : i < L.length) (hj : j < n) : (fl en L)[i * n + j]? = (en L[i])[j]? := by
 have := congrArg (fun l : List AV => l[0]?) (ziw en n hl L i j h (Nat.le_of_lt hj))
 simp only [List.getElem?_drop, Nat.add_zero] at this
 rw [this, List.getElem?_append_left (by rw [List.length_drop, hl]; omega)]
 simp
omit hl in
theorem zwn (L : List T) (a : T) : fl en L ++ en a = fl en (L ++ [a]) := by
 unfold fl
 rw [List.map_append, List.flatten_append]
 simp
theorem zh7 (L : List T) (k : Nat) (hk : k = L.length) : (fl en L).take (k * n) = fl en L := by
 rw [List.take_of_length_le]
 rw [zcd en n hl, hk]
 exact Nat.le_refl _
omit hl in
theorem zxl (hd : ∀ e, (en e).map dat0 = en e) (L : List T) : (fl en L).map dat0 = fl en L := by
 induction L with
 | nil => rfl
 | cons a L ih =>
  show ((en a) ++ fl en L).map dat0 = (en a) ++ fl en L
  rw [List.map_append, ih, hd]
theorem zeO (hd : ∀ e, (en e).map dat0 = en e) : ∀ L : List T, zK (fl en L) n L.length = L.map en
 | [] => rfl
 | a :: L => by
  show ((((en a) ++ fl en L).take n).map dat0) :: zK (((en a) ++ fl en L).drop n) n L.length = en a :: L.map en
  have e1 : ((en a) ++ fl en L).take n = en a := by rw [<- hl a, List.take_left]
  have e2 : ((en a) ++ fl en L).drop n = fl en L := by rw [<- hl a, List.drop_left]
  rw [e1, e2, hd, zeO hd L]
theorem zg6 (hd : ∀ e, (en e).map dat0 = en e) (L : List T) (k : Nat) (hk : k = L.length) : zK ((fl en L).take (k * n)) n k = L.map en := by
 rw [zh7 en n hl L k hk, hk, zeO en n hl hd L]
theorem zoi (L : List T) (i j : Nat) (h : i < L.length) (new : List AV) (b : T) (hb : splice (en L[i]) j new = en b) (hj : j + new.length <= n) : splice (fl en L) (i * n + j) new = fl en (L.set i b) := by
 have hlen : i * n + j + new.length <= (fl en L).length := by
  rw [zcd en n hl]
  have : (i + 1) * n <= L.length * n := Nat.mul_le_mul_right n h
  rw [Nat.succ_mul] at this
  omega
 refine List.ext_getElem? fun k => ?_
 rw [Jq new _ _ hlen]
 by_cases hn : n = 0
 ·have e1 : ∀ L' : List T, fl en L' = [] := fun L' => List.eq_nil_of_length_eq_zero (by rw [zcd en n hl, hn, Nat.mul_zero])
  rw [e1, e1]
  have : ¬ (i * n + j <= k /\ k < i * n + j + new.length) := by omega
  rw [if_neg this]
 have hpos : 0 < n := Nat.pos_of_ne_zero hn
 by_cases hk : k < L.length * n
 ·obtain ⟨q, r, hq, hr, rfl⟩ : ∃ q r, q < L.length /\ r < n /\ k = q * n + r := ⟨k / n, k % n, (Nat.div_lt_iff_lt_mul hpos).2 hk, Nat.mod_lt _ hpos, by rw [Nat.mul_comm]; exact (Nat.div_add_mod k n).symm⟩
  rw [zwq en n hl L q r hq hr, zwq en n hl (L.set i b) q r (by simpa using hq) hr, List.getElem_set]
  by_cases e : i = q
  ·subst e
   simp only [if_true]
   rw [<- hb, Jq new _ _ (by rw [hl]; exact hj)]
   have c : (i * n + j <= i * n + r /\ i * n + r < i * n + j + new.length) ↔ (j <= r /\ r < j + new.length) := by omega
   by_cases c2 : j <= r /\ r < j + new.length
   ·rw [if_pos (c.2 c2), if_pos c2]
    congr 1
    omega
   ·rw [if_neg (fun x => c2 (c.1 x)), if_neg c2]
  ·rw [if_neg e, if_neg]
   rintro ⟨c1, c2⟩
   rcases Nat.lt_or_gt_of_ne e with h1 | h1
   ·have : (i + 1) * n <= q * n := Nat.mul_le_mul_right n h1
    rw [Nat.succ_mul] at this
    omega
   ·have : (q + 1) * n <= i * n := Nat.mul_le_mul_right n h1
    rw [Nat.succ_mul] at this
    omega
 ·have e1 : (fl en L)[k]? = none := List.getElem?_eq_none (by rw [zcd en n hl]; omega)
  have e2 : (fl en (L.set i b))[k]? = none := List.getElem?_eq_none (by rw [zcd en n hl, List.length_set]; omega)
  have : ¬ (i * n + j <= k /\ k < i * n + j + new.length) := by
   rw [zcd en n hl] at hlen
   omega
  rw [if_neg this, e1, e2]
end
end Go.Proofs.YthdgnfcbehcplaaDoor
end
section
namespace Go.Proofs.YthdgnfcbehcplaaDoor
@[reducible] def nmE (e : RT0) : RT1 := (e.1, e.2.1, e.2.2.1, e.2.2.2.1, e.2.2.2.2.1, e.2.2.2.2.2.1, e.2.2.2.2.2.2.1, e.2.2.2.2.2.2.2.1, e.2.2.2.2.2.2.2.2.1, ())
@[reducible] def pkE (e : RT0) : List (List AV) := e.2.2.2.2.2.2.2.2.2.1
@[reducible] def loE (e : RT0) : Int := e.2.2.2.2.2.2.2.2.2.2.2.2.2.2.2.2.2.2.2.2.2.2.1
@[reducible] def hiE (e : RT0) : Int := e.2.2.2.2.2.2.2.2.2.2.2.2.2.2.2.2.2.2.2.2.2.2.2.1
def z10 (c : Nat) : zqv := ((⟨#[]⟩ : ByteArray), (⟨#[]⟩ : ByteArray), (⟨#[]⟩ : ByteArray), (⟨#[]⟩ : ByteArray), 0, 0, 0, 0, 0, c, 0, 0, 0, 0, 0, 0, 0, 0, 0, 0, 0, 0, 0, 0, 0, ())
def z8 : RT8 := ((⟨#[]⟩ : ByteArray), (⟨#[]⟩ : ByteArray), (⟨#[]⟩ : ByteArray), (⟨#[]⟩ : ByteArray), 0, 0, 0, 0, 0, ([] : List (List AV)), 0, 0, 0, 0, 0, 0, 0, 0, 0, 0, 0, 0, 0, 0, 0, ())
def AB : ByteArray := ⟨#[65, 66]⟩
def LC : ByteArray := ⟨#[48, 48]⟩
def CH : ByteArray := ⟨#[66, 72, 90]⟩
def st : Nat -> ByteArray
 | 0 => ⟨#[83, 49]⟩
 | 1 => ⟨#[83, 50]⟩
 | 2 => ⟨#[83, 51]⟩
 | _ => ⟨#[83, 52]⟩
theorem zwy (k : Nat) (h : k < 4) : zqh 600 (k : Int) = some (AB, st k, LC, CH, ()) := by
 rcases (show k = 0 \/ k = 1 \/ k = 2 \/ k = 3 by omega) with rfl | rfl | rfl | rfl <;> kernel_rfl
theorem zjq {xs : List Int} {p : Int} (D : Sc xs p) : ∃ x y z p', zqY 600 (20, zA xs, p) = some (x, y, z, zA xs, p') /\ Sc xs p' := by
 obtain ⟨v1, p1, h1, m1, D1⟩ := zaP 600 (n := 41) (by omega) D
 obtain ⟨v2, p2, h2, m2, D2⟩ := zaP 600 (n := 41) (by omega) D1
 obtain ⟨v3, p3, h3, m3, D3⟩ := zaP 600 (n := 21) (by omega) D2
 simp only [zqY, FSpec.d, zB8]
 have e1 : i64 (i64 (2 * 20) + 1) = 41 := by decide
 have e2 : i64 (20 + 1) = 21 := by decide
 simp only [e1, e2, h1, h2, h3]
 exact ⟨_, _, _, _, rfl, D3⟩
def j7 (k : Nat) (p : RT1) : Prop := p.1 = AB /\ p.2.1 = st k /\ p.2.2.1 = LC /\ p.2.2.2.1 = CH /\ p.2.2.2.2.2.2.2.2.1 = 0
theorem fl1 (L : List RT1) : (fl zq L).map dat0 = fl zq L := zxl zq (fun _ => rfl) L
theorem fl0 (L : List RT0) : (fl zB L).map dat0 = fl zB L := zxl zB (fun _ => rfl) L
theorem zwY (L : List RT1) : (fl zq L).length = L.length * 9 := zcd zq 9 zaX L
theorem zAA (L : List RT0) : (fl zB L).length = L.length * 25 := zcd zB 25 ze7 L
theorem app1 (L : List RT1) (a : RT1) (k : Nat) (hk : k = L.length) : (fl zq L).take (k * 9) ++ [zq a].flatten = fl zq (L ++ [a]) := by
 rw [zh7 zq 9 zaX L k hk, <- zwn]; simp
theorem app0 (L : List RT0) (a : RT0) (k : Nat) (hk : k = L.length) : (fl zB L).take (k * 25) ++ [zB a].flatten = fl zB (L ++ [a]) := by
 rw [zh7 zB 25 ze7 L k hk, <- zwn]; simp
theorem zy7 (t : Int) {xs : List Int} (ht : 0 <= t /\ t <= 100000) : ∀ (m k f : Nat) (p : Int) (L : List RT1), k + m = 4 -> m < f -> Sc xs p -> L.length = k -> (∀ i (h : i < L.length), j7 i L[i]) ->
  ∃ (L' : List RT1) (p' : Int), (jn 600).L f (1, t, (k : Int), zA xs, p, z8, z10 k, fl zq L) = some (t, zA xs, p', z8, z10 L'.length, fl zq L') /\ (1 <= L'.length /\ L'.length <= 4) /\ (∀ i (h : i < L'.length), j7 i L'[i]) /\ Sc xs p' := by
 intro m
 induction m with
 | zero =>
  intro k f p L hk hf D hl hL
  obtain ⟨f, rfl⟩ := pS hf
  obtain ⟨v, p1, h1, m1, D1⟩ := zaP 600 (n := 4) (by omega) D
  refine ⟨L, p1, ?_, by omega, hL, D1⟩
  show (jn 600).b _ _ ((jn 600).L f) some = _
  simp only [jn]
  have e1 : i64 (1 + v) = 1 + v := zX (by omega)
  have e2 : decide ((k : Int) < 1 + v) = false := dF (by omega)
  simp only [h1, e1, e2, fl1, hl]
 | succ m ih =>
  intro k f p L hk hf D hl hL
  obtain ⟨f, rfl⟩ := pS hf
  obtain ⟨v, p1, h1, m1, D1⟩ := zaP 600 (n := 4) (by omega) D
  have e1 : i64 (1 + v) = 1 + v := zX (by omega)
  by_cases hc : (k : Int) < 1 + v
  ·obtain ⟨u, p2, h2, m2, D2⟩ := zaP 600 (n := 3) (by omega) D1
   have hs := zwy k (by omega)
   obtain ⟨q, hq⟩ : ∃ q : RT1, q = (AB, st k, LC, CH, t + 10, t + 10, t + 10 + u, 1, 0, ()) := ⟨_, rfl⟩
   have hfin : ∀ i (h : i < (L ++ [q]).length), j7 i (L ++ [q])[i] := fun i h => by
    rw [List.getElem_append]
    split
    ·exact hL i _
    ·simp at h
     obtain rfl : i = k := by omega
     simp [hl, hq, j7]
   obtain ⟨L', p', r1, r2, r3, r4⟩ := ih (k + 1) f p2 (L ++ [q]) (by omega) (by omega) D2 (by simp [hl]) hfin
   refine ⟨L', p', ?_, r2, r3, r4⟩
   show (jn 600).b _ _ ((jn 600).L f) some = _
   generalize (jn 600).L f = Lf at r1 |-
   simp only [jn]
   have e2 : decide ((k : Int) < 1 + v) = true := dT (by omega)
   have e3 : i64 (10 * 1) = 10 := by decide
   have e4 : i64 (t + 10) = t + 10 := zX (by omega)
   have e5 : i64 (t + 10 + u) = t + 10 + u := zX (by omega)
   have e6 : i64 ((k : Int) + 1) = ((k + 1 : Nat) : Int) := by rw [zX (by omega)]; omega
   have hb : ((z10 k).2.2.2.2.2.2.2.2.2.1 * 9 <= (fl zq L).length /\ ((z10 k).2.2.2.2.2.2.2.2.2.1 + [zq q].length) * 104 <= zh) := by
    rw [zwY]; unfold zh z10; simp; omega
   simp only [h1, e1, e2, hs, h2, e3, e4, e5, e6, <- hq, hb, if_true, and_self]
   rw [app1 L q _ (show (z10 k).2.2.2.2.2.2.2.2.2.1 = _ from hl.symm), fl1]
   exact r1
  ·refine ⟨L, p1, ?_, by omega, hL, D1⟩
   show (jn 600).b _ _ ((jn 600).L f) some = _
   simp only [jn]
   have e2 : decide ((k : Int) < 1 + v) = false := dF (by omega)
   simp only [h1, e1, e2, fl1, hl]
theorem zDL {xs : List Int} {p : Int} (D : Sc xs p) : ∃ (e : zx3) (L : List RT1) (p' : Int), zpn 600 (1, zA xs, p) = some (e, zA xs, p', fl zq L) /\ e.2.2.2.2.2.2.2.2.2.1 = L.length /\ (1 <= L.length /\ L.length <= 4) /\ (∀ i (h : i < L.length), j7 i L[i]) /\ e.2.2.2.2.2.2.2.2.2.2.2.2.2.2.2.2.2.2.2.2.2.2.1 <= e.2.2.2.2.2.2.2.2.2.2.2.2.2.2.2.2.2.2.2.2.2.2.2.1 /\ Sc xs p' := by
 obtain ⟨v, p1, h1, m1, D1⟩ := zaP 600 (n := 300) (by omega) D
 have e1 : i64 (1000 + v) = 1000 + v := zX (by omega)
 obtain ⟨L, p2, h2, hl, hL, D2⟩ := zy7 (1000 + v) (by omega) 4 0 600 p1 [] rfl (by omega) D1 rfl (fun i h => by cases h)
 obtain ⟨x, y, z, p3, h3, D3⟩ := zjq D2
 obtain ⟨u4, p4, h4, m4, D4⟩ := zaP 600 (n := 40) (by omega) D3
 obtain ⟨u5, p5, h5, m5, D5⟩ := zpB 600 [0, 0, 5, 500] (by simp) D4
 replace h5 : zlf 600 ([[AV.v (.int .i64 0)], [AV.v (.int .i64 0)], [AV.v (.int .i64 5)], [AV.v (.int .i64 500)]], zA xs, p4) = some (u5, zA xs, p5) := h5
 obtain ⟨u6, p6, h6, m6, D6⟩ := zaP 600 (n := 3) (by omega) D5
 replace h2 : (jn 600).L 600 (1, 1000 + v, 0, zA xs, p1, z8, z10 0, []) = some (1000 + v, zA xs, p2, z8, z10 L.length, fl zq L) := h2
 unfold z8 z10 at h2
 simp only [zpn, FSpec.d, zv5]
 have hd : (fl zq L).drop ((0 + Int.toNat 0) * 9) = zq L[0] ++ fl zq (L.drop 1) := ziw zq 9 zaX L 0 0 (by omega) (by omega)
 have hz : (0 <= (0 : Int) /\ (0 : Int) < (L.length : Int)) := by omega
 simp only [h1, e1, zpw, h2, hz, and_self, if_true, hd, zjc, h3, h4, h5, h6]
 by_cases hc : u6 > 0
 ·obtain ⟨u7, p7, h7, m7, D7⟩ := zaP 600 (n := 400) (by omega) D6
  obtain ⟨u8, p8, h8, m8, D8⟩ := zaP 600 (n := 60) (by omega) D7
  simp only [hc, decide_true, h7, h8, fl1]
  have e9 : i64 (u7 + u8) = u7 + u8 := zX (by omega)
  simp only [e9]
  exact ⟨_, _, _, rfl, rfl, hl, hL, by dsimp only; omega, D8⟩
 ·simp only [hc, decide_false, fl1]
  exact ⟨_, _, _, rfl, rfl, hl, hL, Int.le_refl 0, D6⟩
def pick (n i : Nat) : RT1 := (AB, st i, LC, CH, 1000 + 400 * n + i, 1000 + 400 * n + i, 1000 + 400 * n + i + 2, 7, 0, ())
def pks (n f c : Nat) : List RT1 := (List.range' f (c - f)).map (pick n)
theorem Jl (n f c : Nat) : (pks n f c).length = c - f := by simp [pks]
theorem zr4 (n i : Nat) : j7 i (pick n i) := ⟨rfl, rfl, rfl, rfl, rfl⟩
theorem ze6 (L : List RT1) (k j : Nat) (hk : k < L.length) (hj : j < 9) (a : AV) (b : RT1) (hb : splice (zq L[k]) j [a] = zq b) : splice (fl zq L) ((0 + ((k : Int)).toNat) * 9 + j) [a] = fl zq (L.set k b) := by
 rw [Nat.zero_add, Int.toNat_natCast]
 exact zoi zq 9 zaX L k j hk [a] b hb (by simp; omega)
theorem zvb (m : Int) (cnt n : Nat) (e : zx3) (ob : List AV) (hob : ob.map dat0 = ob) {xs : List Int} (hn : n <= 100) : ∀ (d k f : Nat) (p : Int) (L : List RT1), k + d = L.length -> d < f -> L.length <= 4 -> e.2.2.2.2.2.2.2.2.2.1 = L.length -> (∀ i (h : i < L.length), j7 i L[i]) -> (∀ i (h : i < L.length), i < k -> L[i] = pick n i) ->
  (zan 600).L f (m, cnt, (n : Int), (L.length : Int), (k : Int), zA xs, p, e, fl zq L, ob) = some (m, cnt, (n : Int), zA xs, p, e, fl zq (pks n 0 L.length), ob) := by
 intro d
 induction d with
 | zero =>
  intro k f p L hk hf hL he hO hP
  obtain ⟨f, rfl⟩ := pS hf
  show (zan 600).b _ _ ((zan 600).L f) some = _
  simp only [zan]
  have e2 : decide ((k : Int) < L.length) = false := dF (by omega)
  have e3 : L = pks n 0 L.length := by
   refine List.ext_getElem (by simp [pks]) fun i h1 h2 => ?_
   rw [hP i h1 (by omega)]
   simp [pks]
  simp only [e2, fl1, hob]
  rw [<- e3]
 | succ d ih =>
  intro k f p L hk hf hL he hO hP
  obtain ⟨f, rfl⟩ := pS hf
  have hkl : k < L.length := by omega
  obtain ⟨o1, o2, o3, o4, o5⟩ := hO k hkl
  obtain ⟨q, hq⟩ : ∃ q, L[k] = q := ⟨_, rfl⟩
  rw [hq] at o1 o2 o3 o4 o5
  obtain ⟨q1, q2, q3, q4, q5, q6, q7, q8, q9, _⟩ := q
  subst o1 o2 o3 o4 o5
  have ih' := ih (k + 1) f p (L.set k (pick n k)) (by simp; omega) (by omega) (by simpa using hL) (by simpa using he) (fun i h => by
   rw [List.getElem_set]
   split
   ·rename_i e; subst e; exact zr4 n _
   ·exact hO i (by simpa using h)) (fun i h hi => by
   rw [List.getElem_set]
   split
   ·rename_i e; subst e; rfl
   ·exact hP i (by simpa using h) (by omega))
  rw [List.length_set] at ih'
  show (zan 600).b _ _ ((zan 600).L f) some = _
  obtain ⟨Lf, hLf⟩ : ∃ Lf, Lf = (zan 600).L f := ⟨_, rfl⟩
  rw [<- hLf] at ih' |-
  simp only [zan]
  have e2 : decide ((k : Int) < L.length) = true := dT (by omega)
  have e3 : i64 (400 * (n : Int)) = 400 * n := zX (by omega)
  have e4 : i64 (1000 + 400 * (n : Int)) = 1000 + 400 * n := zX (by omega)
  have e5 : i64 (1000 + 400 * (n : Int) + k) = 1000 + 400 * n + k := zX (by omega)
  have e6 : i64 (1000 + 400 * (n : Int) + k + 2) = 1000 + 400 * n + k + 2 := zX (by omega)
  have e7 : i64 ((k : Int) + 1) = ((k + 1 : Nat) : Int) := by rw [zX (by omega)]; omega
  have hz : (0 <= (k : Int) /\ (k : Int) < (L.length : Int)) := by omega
  have s1 := ze6 L k 4 hkl (by omega) (AV.v (.int .i64 (1000 + 400 * n + k))) (AB, st k, LC, CH, 1000 + 400 * n + k, q6, q7, q8, 0, ()) (by rw [hq]; rfl)
  have s2 := ze6 (L.set k (AB, st k, LC, CH, 1000 + 400 * n + k, q6, q7, q8, 0, ())) k 5 (by simpa using hkl) (by omega) (AV.v (.int .i64 (1000 + 400 * n + k))) (AB, st k, LC, CH, 1000 + 400 * n + k, 1000 + 400 * n + k, q7, q8, 0, ()) (by rw [List.getElem_set_self]; rfl)
  have s3 := ze6 (L.set k (AB, st k, LC, CH, 1000 + 400 * n + k, 1000 + 400 * n + k, q7, q8, 0, ())) k 6 (by simpa using hkl) (by omega) (AV.v (.int .i64 (1000 + 400 * n + k + 2))) (AB, st k, LC, CH, 1000 + 400 * n + k, 1000 + 400 * n + k, 1000 + 400 * n + k + 2, q8, 0, ()) (by rw [List.getElem_set_self]; rfl)
  have s4 := ze6 (L.set k (AB, st k, LC, CH, 1000 + 400 * n + k, 1000 + 400 * n + k, 1000 + 400 * n + k + 2, q8, 0, ())) k 7 (by simpa using hkl) (by omega) (AV.v (.int .i64 7)) (pick n k) (by rw [List.getElem_set_self]; rfl)
  rw [List.set_set] at s2 s3 s4
  have g : ∀ (L' : List RT1) (j : Nat), L'.length = L.length -> j < 9 -> (0 + ((k : Int)).toNat) * 9 + j + 1 <= (fl zq L').length := fun L' j h1 h2 => by
   rw [zwY, h1, Nat.zero_add, Int.toNat_natCast]; omega
  simp only [e2, e3, e4, e5, e6, e7, he, hz, and_self, if_true, s1, s2, s3, s4, g L 4 rfl (by omega), g _ 5 (List.length_set) (by omega), g _ 6 (List.length_set) (by omega), g _ 7 (List.length_set) (by omega), fl1, hob]
  exact ih'
def EvAt (n : Nat) (e : RT0) : Prop := ∃ f c, f < c /\ c <= 4 /\ f <= 1 /\ nmE e = pick n f /\ pkE e = (pks n f c).map zq /\ loE e <= hiE e
def Evs (lo hi : Nat) : List RT0 -> Prop
 | [] => lo <= hi
 | e :: r => ∃ n, lo <= n /\ EvAt n e /\ Evs (n + 1) hi r
theorem Evs.mono : ∀ {L : List RT0} {lo hi hi' : Nat}, Evs lo hi L -> hi <= hi' -> Evs lo hi' L
 | [], lo, hi, hi', h, hh => Nat.le_trans h hh
 | e :: r, lo, hi, hi', h, hh => by
  obtain ⟨n, h1, h2, h3⟩ := h
  exact ⟨n, h1, h2, h3.mono hh⟩
theorem Evs.snoc : ∀ {L : List RT0} {lo n : Nat} {e : RT0}, Evs lo n L -> EvAt n e -> Evs lo (n + 1) (L ++ [e])
 | [], lo, n, e, h, he => ⟨n, h, he, Nat.le_refl _⟩
 | a :: r, lo, n, e, h, he => by
  obtain ⟨m, h1, h2, h3⟩ := h
  exact ⟨m, h1, h2, h3.snoc he⟩
theorem ziR (n r c : Nat) (h : r <= c) : (fl zq (pks n 0 c)).drop (r * 9) = fl zq (pks n r c) := by
 have e : pks n 0 c = pks n 0 r ++ pks n r c := by
  unfold pks
  rw [<- List.map_append, Nat.sub_zero, Nat.sub_zero]
  congr 1
  rw [show c = r + (c - r) by omega, <- List.range'_append_1]
  simp
 rw [e]
 unfold fl
 rw [List.map_append, List.flatten_append]
 have := zwY (pks n 0 r)
 unfold fl at this
 rw [Jl, Nat.sub_zero] at this
 rw [<- this, List.drop_left]
theorem zvB (m : Nat) {xs : List Int} (hm : m <= 20) : ∀ (d n f : Nat) (p : Int) (A : List RT0), n + d = m -> d < f -> Sc xs p -> A.length <= n -> Evs 0 n A ->
  ∃ (A' : List RT0) (p' : Int), (za1 600).L f (A.length, (m : Int), (n : Int), zA xs, p, fl zB A) = some (A'.length, zA xs, p', fl zB A') /\ A'.length <= m /\ Evs 0 m A' /\ Sc xs p' := by
 intro d
 induction d with
 | zero =>
  intro n f p A hk hf D hA hE
  obtain ⟨f, rfl⟩ := pS hf
  refine ⟨A, p, ?_, by omega, by rw [<- hk]; exact hE, D⟩
  show (za1 600).b _ _ ((za1 600).L f) some = _
  simp only [za1]
  have e2 : decide ((n : Int) < (m : Int)) = false := dF (by omega)
  simp only [e2, fl0]
 | succ d ih =>
  intro n f p A hk hf D hA hE
  obtain ⟨f, rfl⟩ := pS hf
  have e2 : decide ((n : Int) < (m : Int)) = true := dT (by omega)
  have e7 : i64 ((n : Int) + 1) = ((n + 1 : Nat) : Int) := by rw [zX (by omega)]; omega
  obtain ⟨v, p1, h1, m1, D1⟩ := zaP 600 (n := 3) (by omega) D
  by_cases hv : v = 0
  ·obtain ⟨A', p', r1, r2, r3, r4⟩ := ih (n + 1) f p1 A (by omega) (by omega) D1 (by omega) (hE.mono (by omega))
   refine ⟨A', p', ?_, r2, r3, r4⟩
   show (za1 600).b _ _ ((za1 600).L f) some = _
   generalize (za1 600).L f = Lf at r1 |-
   simp only [za1]
   have e3 : (v == 0) = true := by simp [hv]
   simp only [e2, h1, e3, e7, fl0]
   exact r1
  ·have e3 : (v == 0) = false := by simp [hv]
   obtain ⟨e, L, p2, h2, hl, hl2, hL, hlo, D2⟩ := zDL D1
   have h3 := zvb (m : Int) A.length n e (fl zB A) (fl0 A) (xs := xs) (by omega) L.length 0 600 p2 L (by omega) (by omega) (by omega) hl hL (fun i h hi => by omega)
   replace h3 : (zan 600).L 600 ((m : Int), A.length, (n : Int), (L.length : Int), 0, zA xs, p2, e, fl zq L, fl zB A) = some ((m : Int), A.length, (n : Int), zA xs, p2, e, fl zq (pks n 0 L.length), fl zB A) := h3
   obtain ⟨w, p3, h4, m4, D3⟩ := zaP 600 (n := 2) (by omega) D2
   have e4 : i64 (((L.length : Nat) : Int) - 1) = ((L.length - 1 : Nat) : Int) := by rw [zX (by omega)]; omega
   obtain ⟨r, hr⟩ : ∃ r : Nat, (if ((L.length - 1 : Nat) : Int) < w then ((L.length - 1 : Nat) : Int) else w) = (r : Int) /\ r <= 1 /\ r < L.length := by
    by_cases hc : ((L.length - 1 : Nat) : Int) < w
    ·exact ⟨L.length - 1, by rw [if_pos hc], by omega, by omega⟩
    ·exact ⟨w.toNat, by rw [if_neg hc]; omega, by omega, by omega⟩
   obtain ⟨hr, hr1, hr2⟩ := hr
   obtain ⟨q, hq⟩ : ∃ q : RT0, q = ((pick n r).1, (pick n r).2.1, (pick n r).2.2.1, (pick n r).2.2.2.1, (pick n r).2.2.2.2.1, (pick n r).2.2.2.2.2.1, (pick n r).2.2.2.2.2.2.1, (pick n r).2.2.2.2.2.2.2.1, (pick n r).2.2.2.2.2.2.2.2.1, (pks n r L.length).map zq, e.2.2.2.2.2.2.2.2.2.2) := ⟨_, rfl⟩
   have hqe : EvAt n q := ⟨r, L.length, hr2, hl2.2, hr1, by rw [hq], by rw [hq], by rw [hq]; exact hlo⟩
   obtain ⟨A', p', r1, r2, r3, r4⟩ := ih (n + 1) f p3 (A ++ [q]) (by omega) (by omega) D3 (by simp; omega) (hE.snoc hqe)
   refine ⟨A', p', ?_, r2, r3, r4⟩
   show (za1 600).b _ _ ((za1 600).L f) some = _
   generalize (za1 600).L f = Lf at r1 |-
   rw [List.length_append] at r1
   simp only [za1]
   have hz1 : (0 <= (r : Int) /\ (r : Int) <= (L.length : Int)) := by omega
   have hz2 : (0 <= (0 : Int) /\ (0 : Int) < ((L.length - r : Nat) : Int)) := by omega
   have hd1 : (fl zq (pks n 0 L.length)).drop ((0 + r + Int.toNat 0) * 9) = zq (pick n r) ++ fl zq (pks n (r + 1) L.length) := by
    rw [show (0 + r + Int.toNat 0) * 9 = r * 9 by simp, ziR n r _ (by omega)]
    have : pks n r L.length = pick n r :: pks n (r + 1) L.length := by
     unfold pks
     rw [show L.length - r = (L.length - (r + 1)) + 1 by omega, List.range'_succ]
     rfl
    rw [this]
    rfl
   have hd2 : JW (0 + r) 9 (fl zq (pks n 0 L.length)) = fl zq (pks n r L.length) := by
    rw [ziL, Nat.zero_add, ziR n r _ (by omega)]
   have hg1 : (L.length - r) * 9 <= (fl zq (pks n r L.length)).length := by rw [zwY, Jl]; omega
   have hch : zK ((fl zq (pks n r L.length)).take ((L.length - r) * 9)) 9 (L.length - r) = (pks n r L.length).map zq := zg6 zq 9 zaX (fun _ => rfl) _ _ (by rw [Jl])
   have hg2 : (A.length * 25 <= (fl zB A).length /\ (A.length + [zB q].length) * 248 <= zh) := by
    rw [zAA]; unfold zh; simp; omega
   simp only [e2, h1, e3, h2, hl, fl1, fl0, h3, h4, e4, hr, hz1, Int.toNat_natCast, hz2, and_self, if_true, hd1, zjc, hd2, hg1, hch]
   simp only [<- hq, hg2, and_self, if_true, e7]
   rw [app0 A q _ rfl, fl0]
   exact r1
theorem zmx (m : Nat) (hm : m <= 20) {xs : List Int} {p : Int} (D : Sc xs p) : ∃ (A : List RT0) (p' : Int), zwf 600 ((m : Int), zA xs, p) = some (A.map zB, zA xs, p') /\ A.length <= m /\ Evs 0 m A /\ Sc xs p' := by
 obtain ⟨A, p', h1, h2, h3, h4⟩ := zvB m hm m 0 600 p [] (by omega) (by omega) D (by simp) (Nat.le_refl 0)
 refine ⟨A, p', ?_, h2, h3, h4⟩
 replace h1 : (za1 600).L 600 (0, (m : Int), 0, zA xs, p, []) = some (A.length, zA xs, p', fl zB A) := h1
 simp only [zwf, FSpec.d, zEM, zAK, h1]
 have hg : A.length * 25 <= (fl zB A).length := by rw [zAA]; exact Nat.le_refl _
 simp only [hg, if_true, zg6 zB 25 ze7 (fun _ => rfl) A _ rfl]
end Go.Proofs.YthdgnfcbehcplaaDoor
end
section
namespace Go.Proofs.YthdgnfcbehcplaaDoor
@[reducible] def eqP (a b : RT1) : Bool := (((a.1 == b.1) && ((a.2.1 == b.2.1) && ((a.2.2.1 == b.2.2.1) && ((a.2.2.2.1 == b.2.2.2.1) && true)))) && ((a.2.2.2.2.1 == b.2.2.2.2.1) && ((a.2.2.2.2.2.1 == b.2.2.2.2.2.1) && ((a.2.2.2.2.2.2.1 == b.2.2.2.2.2.2.1) && ((a.2.2.2.2.2.2.2.1 == b.2.2.2.2.2.2.2.1) && ((a.2.2.2.2.2.2.2.2.1 == b.2.2.2.2.2.2.2.2.1) && true))))))
theorem zws {a b : ByteArray} : (a == b) = true ↔ a = b := by
 constructor
 ·intro h
  obtain ⟨x⟩ := a
  obtain ⟨y⟩ := b
  have : (x == y) = true := h
  rw [eq_of_beq this]
 ·rintro rfl
  obtain ⟨x⟩ := a
  exact beq_self_eq_true x
theorem Jr (a : RT1) : eqP a a = true := by
 simp only [eqP, Bool.and_eq_true, beq_self_eq_true, zws, and_self]
theorem zwE {a b : RT1} (h : eqP a b = true) : a = b := by
 obtain ⟨a1, a2, a3, a4, a5, a6, a7, a8, a9, a10⟩ := a
 obtain ⟨b1, b2, b3, b4, b5, b6, b7, b8, b9, b10⟩ := b
 simp only [eqP, Bool.and_eq_true, beq_iff_eq, zws] at h
 obtain ⟨⟨h1, h2, h3, h4, -⟩, h5, h6, h7, h8, h9, -⟩ := h
 subst h1 h2 h3 h4 h5 h6 h7 h8 h9
 rfl
theorem za9 {a b : RT1} (h : a ≠ b) : eqP a b = false := by
 cases e : eqP a b with
 | false => rfl
 | true => exact absurd (zwE e) h
theorem zbe (P : List RT1) (k : Nat) (h : k < P.length) : (P.map zq)[k]? = some (zq P[k]) := by simp [h]
theorem zcp (P : List RT0) (k : Nat) (h : k < P.length) : (P.map zB)[k]? = some (zB P[k]) := by simp [h]
theorem zw {α : Type} {P : List α} {k : Nat} (h : k < P.length) (p : α) : p ∈ P.drop k ↔ p = P[k] \/ p ∈ P.drop (k + 1) := by
 rw [List.drop_eq_getElem_cons h, List.mem_cons]
theorem zp {k : Nat} (h : k < 1000000) : i64 ((k : Int) + 1) = ((k + 1 : Nat) : Int) := by rw [zX (by omega)]; omega
theorem zkf (P : List RT1) (p : RT1) (hP : P.length <= 500) : ∀ (d k f : Nat), k + d = P.length -> d < f -> ∃ y, (Z7 600).L f (P.map zq, (P.length : Int), (k : Int), p) = some y /\ ((p ∈ P.drop k /\ ∃ j : Nat, y = .inl (j : Int)) \/ (p ∉ P.drop k /\ y = .inr ())) := by
 intro d
 induction d with
 | zero =>
  intro k f hk hf
  obtain ⟨f, rfl⟩ := pS hf
  refine ⟨.inr (), ?_, .inr ⟨by rw [List.drop_eq_nil_of_le (by omega)]; simp, rfl⟩⟩
  show (Z7 600).b _ _ ((Z7 600).L f) some = _
  simp only [Z7]
  have e2 : decide ((k : Int) < (P.length : Int)) = false := dF (by omega)
  simp only [e2]
 | succ d ih =>
  intro k f hk hf
  obtain ⟨f, rfl⟩ := pS hf
  have hkl : k < P.length := by omega
  have e2 : decide ((k : Int) < (P.length : Int)) = true := dT (by omega)
  have e3 : (0 : Int) <= (k : Int) := by omega
  by_cases hc : p = P[k]
  ·refine ⟨.inl (k : Int), ?_, .inl ⟨(zw hkl p).2 (.inl hc), k, rfl⟩⟩
   show (Z7 600).b _ _ ((Z7 600).L f) some = _
   simp only [Z7]
   have e4 : eqP p P[k] = true := by rw [<- hc]; exact Jr p
   simp only [e2, e3, if_true, Int.toNat_natCast, zbe P k hkl, Zq, e4]
  ·obtain ⟨y, r1, r2⟩ := ih (k + 1) f (by omega) (by omega)
   refine ⟨y, ?_, ?_⟩
   ·show (Z7 600).b _ _ ((Z7 600).L f) some = _
    generalize (Z7 600).L f = Lf at r1 |-
    simp only [Z7]
    have e4 : eqP p P[k] = false := za9 hc
    simp only [e2, e3, if_true, Int.toNat_natCast, zbe P k hkl, Zq, e4, zp (show k < 1000000 by omega)]
    exact r1
   ·rcases r2 with ⟨h1, h2⟩ | ⟨h1, h2⟩
    ·exact .inl ⟨(zw hkl p).2 (.inr h1), h2⟩
    ·exact .inr ⟨fun h => ((zw hkl p).1 h).elim hc h1, h2⟩
theorem zh5 (P : List RT1) (p : RT1) (hP : P.length <= 500) : ∃ b, zzh 600 (P.map zq, p) = some b /\ (b = true ↔ p ∈ P) := by
 obtain ⟨y, h1, h2⟩ := zkf P p hP P.length 0 600 (by omega) (by omega)
 replace h1 : (Z7 600).L 600 (P.map zq, (P.length : Int), 0, p) = some y := h1
 rw [List.drop_zero] at h2
 simp only [zzh, FSpec.d, zku, zBt, zlh, zwm, List.length_map, h1]
 rcases h2 with ⟨h2, j, rfl⟩ | ⟨h2, rfl⟩
 ·exact ⟨_, rfl, by simp [h2]⟩
 ·exact ⟨_, rfl, by simp [h2]⟩
def Com (P Q : List RT1) : Prop := ∃ p ∈ P, p ∈ Q
theorem zhZ (P Q : List RT1) (e : RT0) (he : pkE e = Q.map zq) (hP : P.length <= 500) (hQ : Q.length <= 500) : ∀ (d k f : Nat), k + d = P.length -> d < f -> ∃ y, (Z8 600).L f (P.map zq, (P.length : Int), (k : Int), e) = some y /\ ((Com (P.drop k) Q /\ ∃ j : Nat, y = .inl ((j : Int), e)) \/ (¬ Com (P.drop k) Q /\ y = .inr e)) := by
 intro d
 induction d with
 | zero =>
  intro k f hk hf
  obtain ⟨f, rfl⟩ := pS hf
  refine ⟨.inr e, ?_, .inr ⟨by (rw [List.drop_eq_nil_of_le (by omega)]; rintro ⟨p, h, -⟩; cases h), rfl⟩⟩
  show (Z8 600).b _ _ ((Z8 600).L f) some = _
  simp only [Z8]
  have e2 : decide ((k : Int) < (P.length : Int)) = false := dF (by omega)
  simp only [e2]
 | succ d ih =>
  intro k f hk hf
  obtain ⟨f, rfl⟩ := pS hf
  have hkl : k < P.length := by omega
  have e2 : decide ((k : Int) < (P.length : Int)) = true := dT (by omega)
  have e3 : (0 : Int) <= (k : Int) := by omega
  obtain ⟨b, hb, hb2⟩ := zh5 Q P[k] hQ
  rw [<- he] at hb
  have hs : zxP 600 (P[k], e) = some (b, e) := by
   simp only [zxP, FSpec.d, zkY]
   simp only [hb]
  cases b with
  | true =>
   refine ⟨.inl ((k : Int), e), ?_, .inl ⟨⟨P[k], (zw hkl _).2 (.inl rfl), hb2.1 rfl⟩, k, rfl⟩⟩
   show (Z8 600).b _ _ ((Z8 600).L f) some = _
   simp only [Z8]
   simp only [e2, e3, if_true, Int.toNat_natCast, zbe P k hkl, Zq, hs]
  | false =>
   obtain ⟨y, r1, r2⟩ := ih (k + 1) f (by omega) (by omega)
   refine ⟨y, ?_, ?_⟩
   ·show (Z8 600).b _ _ ((Z8 600).L f) some = _
    generalize (Z8 600).L f = Lf at r1 |-
    simp only [Z8]
    simp only [e2, e3, if_true, Int.toNat_natCast, zbe P k hkl, Zq, hs, zp (show k < 1000000 by omega)]
    exact r1
   ·rcases r2 with ⟨⟨p, q1, q2⟩, h2⟩ | ⟨h1, h2⟩
    ·exact .inl ⟨⟨p, (zw hkl p).2 (.inr q1), q2⟩, h2⟩
    ·refine .inr ⟨fun ⟨p, q1, q2⟩ => ?_, h2⟩
     rcases (zw hkl p).1 q1 with e | e
     ·subst e; exact absurd (hb2.2 q2) (by simp)
     ·exact h1 ⟨p, e, q2⟩
theorem znR (P Q : List RT1) (a e : RT0) (ha : pkE a = P.map zq) (he : pkE e = Q.map zq) (hP : P.length <= 500) (hQ : Q.length <= 500) : ∃ b, zp3 600 (a, e) = some b /\ (b = true ↔ Com P Q) := by
 obtain ⟨y, h1, h2⟩ := zhZ P Q e he hP hQ P.length 0 600 (by omega) (by omega)
 replace h1 : (Z8 600).L 600 (P.map zq, (P.length : Int), 0, e) = some y := h1
 rw [List.drop_zero] at h2
 have ha' : a.2.2.2.2.2.2.2.2.2.1 = P.map zq := ha
 simp only [zp3, FSpec.d, zj0, zCk, zjW, zAY, zkm, zwT, ha', List.length_map, h1]
 rcases h2 with ⟨h2, j, rfl⟩ | ⟨h2, rfl⟩
 ·exact ⟨_, rfl, by simp [h2]⟩
 ·exact ⟨_, rfl, by simp [h2]⟩
end Go.Proofs.YthdgnfcbehcplaaDoor
end
section
namespace Go.Proofs.YthdgnfcbehcplaaDoor
theorem nm0 (e : RT0) : Jv ((zB e).drop 0) = some (nmE e) := rfl
theorem znG (n f c : Nat) (hn : n < 5) (h1 : f < c) (h2 : c <= 4) (h3 : f <= 1) : zuq 600 ((pks n f c).map zq) = some true := by
 rcases (show n = 0 \/ n = 1 \/ n = 2 \/ n = 3 \/ n = 4 by omega) with rfl | rfl | rfl | rfl | rfl <;> rcases (show (f = 0 /\ c = 1) \/ (f = 0 /\ c = 2) \/ (f = 0 /\ c = 3) \/ (f = 0 /\ c = 4) \/ (f = 1 /\ c = 2) \/ (f = 1 /\ c = 3) \/ (f = 1 /\ c = 4) by omega) with ⟨rfl, rfl⟩ | ⟨rfl, rfl⟩ | ⟨rfl, rfl⟩ | ⟨rfl, rfl⟩ | ⟨rfl, rfl⟩ | ⟨rfl, rfl⟩ | ⟨rfl, rfl⟩ <;> kernel_rfl
theorem zx1 (n f c : Nat) (hn : n < 5) (h1 : f < c) (h2 : c <= 4) (h3 : f <= 1) : zub 600 ((pks n f c).map zq) = some (pick n f) := by
 rcases (show n = 0 \/ n = 1 \/ n = 2 \/ n = 3 \/ n = 4 by omega) with rfl | rfl | rfl | rfl | rfl <;> rcases (show (f = 0 /\ c = 1) \/ (f = 0 /\ c = 2) \/ (f = 0 /\ c = 3) \/ (f = 0 /\ c = 4) \/ (f = 1 /\ c = 2) \/ (f = 1 /\ c = 3) \/ (f = 1 /\ c = 4) by omega) with ⟨rfl, rfl⟩ | ⟨rfl, rfl⟩ | ⟨rfl, rfl⟩ | ⟨rfl, rfl⟩ | ⟨rfl, rfl⟩ | ⟨rfl, rfl⟩ | ⟨rfl, rfl⟩ <;> kernel_rfl
theorem zuz (n f c : Nat) (hn : n < 5) (h1 : f < c) (h2 : c <= 4) (h3 : f <= 1) : ztz 600 ((pks n f c).map zq) = some (pick n f) := by
 rcases (show n = 0 \/ n = 1 \/ n = 2 \/ n = 3 \/ n = 4 by omega) with rfl | rfl | rfl | rfl | rfl <;> rcases (show (f = 0 /\ c = 1) \/ (f = 0 /\ c = 2) \/ (f = 0 /\ c = 3) \/ (f = 0 /\ c = 4) \/ (f = 1 /\ c = 2) \/ (f = 1 /\ c = 3) \/ (f = 1 /\ c = 4) by omega) with ⟨rfl, rfl⟩ | ⟨rfl, rfl⟩ | ⟨rfl, rfl⟩ | ⟨rfl, rfl⟩ | ⟨rfl, rfl⟩ | ⟨rfl, rfl⟩ | ⟨rfl, rfl⟩ <;> kernel_rfl
theorem zsX (n f c : Nat) (hn : n < 5) (h1 : f < c) (h2 : c <= 4) (h3 : f <= 1) : zht 600 ((pks n f c).map zq) = some ((pks n f c).map zq) := by
 rcases (show n = 0 \/ n = 1 \/ n = 2 \/ n = 3 \/ n = 4 by omega) with rfl | rfl | rfl | rfl | rfl <;> rcases (show (f = 0 /\ c = 1) \/ (f = 0 /\ c = 2) \/ (f = 0 /\ c = 3) \/ (f = 0 /\ c = 4) \/ (f = 1 /\ c = 2) \/ (f = 1 /\ c = 3) \/ (f = 1 /\ c = 4) by omega) with ⟨rfl, rfl⟩ | ⟨rfl, rfl⟩ | ⟨rfl, rfl⟩ | ⟨rfl, rfl⟩ | ⟨rfl, rfl⟩ | ⟨rfl, rfl⟩ | ⟨rfl, rfl⟩ <;> kernel_rfl
theorem zsr (n f c : Nat) (hn : n < 5) (h1 : f < c) (h2 : c <= 4) (h3 : f <= 1) : zid 600 ((pks n f c).map zq, (pks n f c).map zq) = some true := by
 rcases (show n = 0 \/ n = 1 \/ n = 2 \/ n = 3 \/ n = 4 by omega) with rfl | rfl | rfl | rfl | rfl <;> rcases (show (f = 0 /\ c = 1) \/ (f = 0 /\ c = 2) \/ (f = 0 /\ c = 3) \/ (f = 0 /\ c = 4) \/ (f = 1 /\ c = 2) \/ (f = 1 /\ c = 3) \/ (f = 1 /\ c = 4) by omega) with ⟨rfl, rfl⟩ | ⟨rfl, rfl⟩ | ⟨rfl, rfl⟩ | ⟨rfl, rfl⟩ | ⟨rfl, rfl⟩ | ⟨rfl, rfl⟩ | ⟨rfl, rfl⟩ <;> kernel_rfl
theorem zp9 (n m f g : Nat) (hn : n < m) (hm : m < 5) (hf : f <= 1) (hg : g <= 1) : zoB 600 (pick n f, pick m g) = some (-1) /\ zpW 600 (pick n f, pick m g) = some (-1) := by
 rcases (show (n = 0 /\ m = 1) \/ (n = 0 /\ m = 2) \/ (n = 0 /\ m = 3) \/ (n = 0 /\ m = 4) \/ (n = 1 /\ m = 2) \/ (n = 1 /\ m = 3) \/ (n = 1 /\ m = 4) \/ (n = 2 /\ m = 3) \/ (n = 2 /\ m = 4) \/ (n = 3 /\ m = 4) by omega) with ⟨rfl, rfl⟩ | ⟨rfl, rfl⟩ | ⟨rfl, rfl⟩ | ⟨rfl, rfl⟩ | ⟨rfl, rfl⟩ | ⟨rfl, rfl⟩ | ⟨rfl, rfl⟩ | ⟨rfl, rfl⟩ | ⟨rfl, rfl⟩ | ⟨rfl, rfl⟩ <;> rcases (show f = 0 \/ f = 1 by omega) with rfl | rfl <;> rcases (show g = 0 \/ g = 1 by omega) with rfl | rfl <;> exact ⟨by kernel_rfl, by kernel_rfl⟩
@[reducible] def tmP (p : RT1) : Int := p.2.2.2.2.1
theorem zjG {n f c : Nat} (hc : c <= 4) : ∀ p ∈ pks n f c, 1000 + 400 * (n : Int) <= tmP p /\ tmP p < 1000 + 400 * (n + 1 : Nat) := fun p hp => by
 obtain ⟨i, hi, rfl⟩ := List.mem_map.1 hp
 rw [List.mem_range'] at hi
 obtain ⟨j, hj, rfl⟩ := hi
 simp only [tmP, pick]
 omega
theorem zjt {n i m j : Nat} (hi : i < 4) (hj : j < 4) (h : pick n i = pick m j) : n = m /\ i = j := by
 have := congrArg tmP h
 simp only [tmP, pick] at this
 omega
theorem zoC (n f c : Nat) (hc : c <= 4) : (pks n f c).Pairwise fun a b => a ≠ b := by
 unfold pks
 rw [List.pairwise_map]
 refine (List.pairwise_lt_range' (s := f) (n := c - f)).imp_of_mem fun {a b} ha hb hab h => ?_
 rw [List.mem_range'] at ha hb
 obtain ⟨i, hi, rfl⟩ := ha
 obtain ⟨j, hj, rfl⟩ := hb
 have := zjt (by omega) (by omega) h
 omega
theorem zC5 (a b : RT1) : zaj (zq a) (zq b) = eqP a b := by
 show (a.1 == b.1 && (a.2.1 == b.2.1 && (a.2.2.1 == b.2.2.1 && (a.2.2.2.1 == b.2.2.2.1 && (a.2.2.2.2.1 == b.2.2.2.2.1 && (a.2.2.2.2.2.1 == b.2.2.2.2.2.1 && (a.2.2.2.2.2.2.1 == b.2.2.2.2.2.2.1 && (a.2.2.2.2.2.2.2.1 == b.2.2.2.2.2.2.2.1 && (a.2.2.2.2.2.2.2.2.1 == b.2.2.2.2.2.2.2.2.1 && true))))))))) = _
 simp only [eqP, Bool.and_true, Bool.and_assoc]
theorem zxm : ∀ (M : List RT1) (p : RT1), p ∉ M -> zhp (zq p) (M.map zq) = false /\ zcj (zq p) (zq p) (M.map zq) = (M ++ [p]).map zq
 | [], p, h => ⟨rfl, rfl⟩
 | q :: M, p, h => by
  have h1 : p ≠ q := fun e => h (by rw [e]; exact List.mem_cons_self)
  obtain ⟨i1, i2⟩ := zxm M p (fun e => h (List.mem_cons_of_mem _ e))
  have e : zaj (zq p) (zq q) = false := by rw [zC5]; exact za9 h1
  refine ⟨?_, ?_⟩
  ·unfold zhp at i1 |-
   simp only [List.map_cons, zbc, e]
   exact i1
  ·simp only [List.map_cons, zcj, e, i2, List.cons_append]
theorem zgL (A B : List (List AV)) (la i : Int) (P : List RT1) (hP : P.length <= 500) (hd : P.Pairwise fun a b => a ≠ b) : ∀ (d k f : Nat) (M : List RT1), k + d = P.length -> d < f -> (∀ p ∈ P.drop k, p ∉ M) -> (ZN 600).L f (A, B, P.map zq, la, i, (P.length : Int), (k : Int), M.map zq) = some (.inr (A, B, la, i, (M ++ P.drop k).map zq)) := by
 intro d
 induction d with
 | zero =>
  intro k f M hk hf hM
  obtain ⟨f, rfl⟩ := pS hf
  show (ZN 600).b _ _ ((ZN 600).L f) some = _
  simp only [ZN]
  have e2 : decide ((k : Int) < (P.length : Int)) = false := dF (by omega)
  simp only [e2]
  rw [List.drop_eq_nil_of_le (by omega), List.append_nil]
 | succ d ih =>
  intro k f M hk hf hM
  obtain ⟨f, rfl⟩ := pS hf
  have hkl : k < P.length := by omega
  have e2 : decide ((k : Int) < (P.length : Int)) = true := dT (by omega)
  have e3 : (0 : Int) <= (k : Int) := by omega
  obtain ⟨m1, m2⟩ := zxm M P[k] (hM _ ((zw hkl _).2 (.inl rfl)))
  have r1 := ih (k + 1) f (M ++ [P[k]]) (by omega) (by omega) (fun p hp hm => by
   rcases List.mem_append.1 hm with h | h
   ·exact hM p ((zw hkl p).2 (.inr hp)) h
   ·have h := List.mem_singleton.1 h
    obtain ⟨j, hj, e⟩ := List.getElem_of_mem hp
    rw [List.getElem_drop] at e
    rw [List.length_drop] at hj
    exact List.pairwise_iff_getElem.1 hd k (k + 1 + j) hkl (by omega) (by omega) (by rw [e, h]))
  show (ZN 600).b _ _ ((ZN 600).L f) some = _
  generalize (ZN 600).L f = Lf at r1 |-
  simp only [ZN]
  simp only [e2, e3, if_true, Int.toNat_natCast, zbe P k hkl, Zq, m1, m2, zp (show k < 1000000 by omega)]
  rw [r1, List.append_assoc]
  congr 4
  rw [List.drop_eq_getElem_cons hkl]
  rfl
theorem zei (A : List RT0) (hA : A.length <= 5) : ∀ (R : List RT0) (k lo f : Nat) (M : List RT1), A.drop k = R -> R.length < f -> k + R.length = A.length -> Evs lo 5 R -> (∀ q ∈ M, tmP q < 1000 + 400 * (lo : Int)) -> (∀ (h : 0 < k) (h' : k - 1 < A.length), ∃ n g, n < lo /\ g <= 1 /\ nmE A[k - 1] = pick n g) ->
  (ZD 600).L f (A.map zB, A.map zB, (A.length : Int), (k : Int), M.map zq) = some (.inr ())
 | [], k, lo, f, M, hR, hf, hk, hE, hM, hN => by
  obtain ⟨f, rfl⟩ := pS hf
  show (ZD 600).b _ _ ((ZD 600).L f) some = _
  simp only [ZD]
  have e2 : decide ((k : Int) < (A.length : Int)) = false := by rw [decide_eq_false_iff_not]; simp at hk; omega
  simp only [e2]
 | e :: R, k, lo, f, M, hR, hf, hk, hE, hM, hN => by
  obtain ⟨f, rfl⟩ := pS hf
  rw [List.length_cons] at hf hk
  have hkl : k < A.length := by omega
  have hek : A[k] = e := by
   have := List.drop_eq_getElem_cons hkl
   rw [hR] at this
   exact (List.cons.inj this).1.symm
  obtain ⟨n, hn, ⟨g, c, c1, c2, c3, c4, c5, c6⟩, hE'⟩ := hE
  have hn5 : n + 1 <= 5 := by
   have : ∀ (L : List RT0) (lo hi : Nat), Evs lo hi L -> lo <= hi := fun L => by
    induction L with
    | nil => exact fun lo hi h => h
    | cons a L ih => exact fun lo hi ⟨n, h1, _, h3⟩ => by have := ih _ _ h3; omega
   exact this _ _ _ hE'
  have e2 : decide ((k : Int) < (A.length : Int)) = true := dT (by omega)
  have e3 : (0 : Int) <= (k : Int) := by omega
  have r1 := zei A hA R (k + 1) (n + 1) f (M ++ pks n g c) (by rw [<- List.tail_drop, hR]; rfl) (by omega) (by omega) hE' (fun q hq => by
   rcases List.mem_append.1 hq with h | h
   ·have := hM q h; omega
   ·exact (zjG c2 q h).2) (fun _ h' => ⟨n, g, by omega, c3, by simp only [Nat.add_sub_cancel]; rw [hek]; exact c4⟩)
  have s1 := znG n g c (by omega) c1 c2 c3
  have s2 := zx1 n g c (by omega) c1 c2 c3
  have sl := zgL (A.map zB) (A.map zB) (A.length : Int) (k : Int) (pks n g c) (by rw [Jl]; omega) (zoC n g c c2) (pks n g c).length 0 600 M (by omega) (by rw [Jl]; omega) (fun p hp hm => by
   have h1 := (zjG c2 p hp).1
   have h2 := hM p hm
   omega)
  rw [List.drop_zero] at sl
  replace sl : (ZN 600).L 600 (A.map zB, A.map zB, (pks n g c).map zq, (A.length : Int), (k : Int), ((pks n g c).length : Int), 0, M.map zq) = some (.inr (A.map zB, A.map zB, (A.length : Int), (k : Int), (M ++ pks n g c).map zq)) := sl
  have c5' : e.2.2.2.2.2.2.2.2.2.1 = (pks n g c).map zq := c5
  have e4 : (((pks n g c).length : Int) == 0) = false := by rw [Jl]; simp; omega
  have e5 : eqP (nmE e) (pick n g) = true := by rw [c4]; exact Jr _
  show (ZD 600).b _ _ ((ZD 600).L f) some = _
  generalize (ZD 600).L f = Lf at r1 |-
  simp only [ZD]
  simp only [e2, e3, if_true, Int.toNat_natCast, zcp A k hkl, hek, ZE, c5', List.length_map, e4, s1, s2, e5, Bool.not_true]
  by_cases hk0 : (k : Int) > 0
  ·have hk1 : i64 ((k : Int) - 1) = ((k - 1 : Nat) : Int) := by rw [zX (by omega)]; omega
   obtain ⟨n', g', z1, z2, z3⟩ := hN (by omega) (by omega)
   have hl := (zp9 n' n g' g (by omega) (by omega) z2 c3).1
   rw [<- c4] at hl
   rw [<- z3] at hl
   have e6 : decide ((-1 : Int) >= 0) = false := by decide
   have e7 : (0 : Int) <= ((k - 1 : Nat) : Int) := by omega
   simp only [hk0, decide_true, hk1, e7, if_true, Int.toNat_natCast, zcp A (k - 1) (by omega), nm0, hl, e6, sl, zp (show k < 1000000 by omega)]
   exact r1
  ·simp only [hk0, decide_false, sl, zp (show k < 1000000 by omega)]
   exact r1
theorem zdN {L : List RT0} {lo hi : Nat} : Evs lo hi L -> L.length + lo <= hi := by
 induction L generalizing lo with
 | nil => intro h; have h' : lo <= hi := h; rw [List.length_nil]; omega
 | cons a L ih => exact fun ⟨n, h1, _, h3⟩ => by have := ih h3; rw [List.length_cons]; omega
theorem zaJ {A : List RT0} {m : Nat} (hm : m <= 5) (h : Evs 0 m A) : zfm 600 (A.map zB) = some true := by
 have hl := zdN h
 have := zei A (by omega) A 0 0 600 [] rfl (by omega) (by omega) (h.mono hm) (fun q hq => by cases hq) (fun h => by omega)
 replace this : (ZD 600).L 600 (A.map zB, A.map zB, (A.length : Int), 0, []) = some (.inr ()) := this
 simp only [zfm, FSpec.d, ziq, zn2, List.length_map, this]
def zaZ (e : RT0) : Prop := ∃ P : List RT1, P.length <= 4 /\ pkE e = P.map zq
theorem EvAt.pk {n : Nat} {e : RT0} (h : EvAt n e) : zaZ e := by
 obtain ⟨f, c, h1, h2, h3, h4, h5, h6⟩ := h
 exact ⟨pks n f c, by rw [Jl]; omega, h5⟩
theorem Evs.all : ∀ {E : List RT0} {lo hi : Nat}, Evs lo hi E -> ∀ e ∈ E, ∃ n, lo <= n /\ n < hi /\ EvAt n e
 | [], lo, hi, h, e, he => by cases he
 | a :: E, lo, hi, h, e, he => by
  obtain ⟨n, h1, h2, h3⟩ := h
  have := zdN h3
  rcases List.mem_cons.1 he with h | h
  ·subst h; exact ⟨n, h1, by omega, h2⟩
  ·obtain ⟨m, q1, q2, q3⟩ := h3.all e h
   exact ⟨m, by omega, q2, q3⟩
theorem Evs.names : ∀ {E : List RT0} {lo hi : Nat}, Evs lo hi E -> E.Pairwise fun a b => nmE a ≠ nmE b
 | [], lo, hi, h => .nil
 | a :: E, lo, hi, h => by
  obtain ⟨n, h1, ⟨f, c, c1, c2, c3, c4, c5, c6⟩, h3⟩ := h
  refine .cons (fun b hb e => ?_) h3.names
  obtain ⟨m, q1, q2, f', c', z1, z2, z3, z4, z5, z6⟩ := h3.all b hb
  rw [c4, z4] at e
  have := zjt (by omega) (by omega) e
  omega
theorem Evs.pk {E : List RT0} {lo hi : Nat} (h : Evs lo hi E) : ∀ e ∈ E, zaZ e := fun e he => by
 obtain ⟨n, _, _, q⟩ := h.all e he
 exact q.pk
structure EvOk (E : List RT0) : Prop where
 v : zfm 600 (E.map zB) = some true
 l : E.length <= 5
 names : E.Pairwise fun a b => nmE a ≠ nmE b
 pk : ∀ e ∈ E, zaZ e
theorem Evs.ok {E : List RT0} {m : Nat} (hm : m <= 5) (h : Evs 0 m E) : EvOk E := ⟨zaJ hm h, by have := zdN h; omega, h.names, h.pk⟩
end Go.Proofs.YthdgnfcbehcplaaDoor
end
section
namespace Go.Proofs.YthdgnfcbehcplaaDoor
theorem zAi (A B : List (List AV)) (P Q : List RT1) (i : Nat) (hi : i < P.length) (hA : A = P.map zq) (hB : B = Q.map zq) (hQ : Q.length <= 500) : ∀ (d k f : Nat), k + d = Q.length -> d < f -> ∃ y, (Zx 600).L f (A, B, (i : Int), (k : Int)) = some y /\ ((P[i] ∈ Q.drop k /\ y = .inl (A, B, true, (i : Int))) \/ (P[i] ∉ Q.drop k /\ y = .inr (A, B, (i : Int)))) := by
 subst hA hB
 intro d
 induction d with
 | zero =>
  intro k f hk hf
  obtain ⟨f, rfl⟩ := pS hf
  refine ⟨_, ?_, .inr ⟨by rw [List.drop_eq_nil_of_le (by omega)]; simp, rfl⟩⟩
  show (Zx 600).b _ _ ((Zx 600).L f) some = _
  simp only [Zx]
  have e2 : decide ((k : Int) < (Q.length : Int)) = false := dF (by omega)
  simp only [List.length_map, e2]
 | succ d ih =>
  intro k f hk hf
  obtain ⟨f, rfl⟩ := pS hf
  have hkl : k < Q.length := by omega
  have e2 : decide ((k : Int) < (Q.length : Int)) = true := dT (by omega)
  have e3 : (0 : Int) <= (k : Int) := by omega
  have e4 : (0 : Int) <= (i : Int) := by omega
  by_cases hc : P[i] = Q[k]
  ·refine ⟨_, ?_, .inl ⟨(zw hkl _).2 (.inl hc), rfl⟩⟩
   show (Zx 600).b _ _ ((Zx 600).L f) some = _
   simp only [Zx]
   have e5 : eqP P[i] Q[k] = true := by rw [hc]; exact Jr _
   simp only [List.length_map, e2, e3, e4, if_true, Int.toNat_natCast, zbe Q k hkl, zbe P i hi, Zq, e5]
  ·obtain ⟨y, r1, r2⟩ := ih (k + 1) f (by omega) (by omega)
   refine ⟨y, ?_, ?_⟩
   ·show (Zx 600).b _ _ ((Zx 600).L f) some = _
    generalize (Zx 600).L f = Lf at r1 |-
    simp only [Zx]
    have e5 : eqP P[i] Q[k] = false := za9 hc
    simp only [List.length_map, e2, e3, e4, if_true, Int.toNat_natCast, zbe Q k hkl, zbe P i hi, Zq, e5, zp (show k < 1000000 by omega)]
    exact r1
   ·rcases r2 with ⟨h1, h2⟩ | ⟨h1, h2⟩
    ·exact .inl ⟨(zw hkl _).2 (.inr h1), h2⟩
    ·exact .inr ⟨fun h => ((zw hkl _).1 h).elim hc h1, h2⟩
theorem zxz (P Q : List RT1) (hP : P.length <= 500) (hQ : Q.length <= 500) : ∀ (d k f : Nat), k + d = P.length -> d < f -> ∃ y, (Z4 600).L f (P.map zq, Q.map zq, (k : Int)) = some y /\ ((Com (P.drop k) Q /\ y = .inl true) \/ (¬ Com (P.drop k) Q /\ y = .inr ())) := by
 intro d
 induction d with
 | zero =>
  intro k f hk hf
  obtain ⟨f, rfl⟩ := pS hf
  refine ⟨_, ?_, .inr ⟨by (rw [List.drop_eq_nil_of_le (by omega)]; rintro ⟨p, h, -⟩; cases h), rfl⟩⟩
  show (Z4 600).b _ _ ((Z4 600).L f) some = _
  simp only [Z4]
  have e2 : decide ((k : Int) < (P.length : Int)) = false := dF (by omega)
  simp only [List.length_map, e2]
 | succ d ih =>
  intro k f hk hf
  obtain ⟨f, rfl⟩ := pS hf
  have hkl : k < P.length := by omega
  have e2 : decide ((k : Int) < (P.length : Int)) = true := dT (by omega)
  obtain ⟨z, q1, q2⟩ := zAi _ _ P Q k hkl rfl rfl hQ Q.length 0 600 (by omega) (by omega)
  replace q1 : (Zx 600).L 600 (P.map zq, Q.map zq, (k : Int), 0) = some z := q1
  rw [List.drop_zero] at q2
  rcases q2 with ⟨g1, rfl⟩ | ⟨g1, rfl⟩
  ·refine ⟨_, ?_, .inl ⟨⟨P[k], (zw hkl _).2 (.inl rfl), g1⟩, rfl⟩⟩
   show (Z4 600).b _ _ ((Z4 600).L f) some = _
   simp only [Z4]
   simp only [List.length_map, e2, zhR, q1]
  ·obtain ⟨y, r1, r2⟩ := ih (k + 1) f (by omega) (by omega)
   refine ⟨y, ?_, ?_⟩
   ·show (Z4 600).b _ _ ((Z4 600).L f) some = _
    generalize (Z4 600).L f = Lf at r1 |-
    simp only [Z4]
    simp only [List.length_map, e2, zhR, q1, zp (show k < 1000000 by omega)]
    exact r1
   ·rcases r2 with ⟨⟨p, h1, h2⟩, h3⟩ | ⟨h1, h2⟩
    ·exact .inl ⟨⟨p, (zw hkl _).2 (.inr h1), h2⟩, h3⟩
    ·refine .inr ⟨fun ⟨p, h, h'⟩ => ?_, h2⟩
     rcases (zw hkl _).1 h with e | e
     ·subst e; exact g1 h'
     ·exact h1 ⟨p, e, h'⟩
theorem zCU (P Q : List RT1) (hP : P.length <= 500) (hQ : Q.length <= 500) : ∃ b, zyT 600 (P.map zq, Q.map zq) = some b /\ (b = true ↔ Com P Q) := by
 obtain ⟨y, h1, h2⟩ := zxz P Q hP hQ P.length 0 600 (by omega) (by omega)
 replace h1 : (Z4 600).L 600 (P.map zq, Q.map zq, 0) = some y := h1
 rw [List.drop_zero] at h2
 simp only [zyT, FSpec.d, zlL, zv9, h1]
 rcases h2 with ⟨h2, rfl⟩ | ⟨h2, rfl⟩
 ·exact ⟨_, rfl, by simp [h2]⟩
 ·exact ⟨_, rfl, by simp [h2]⟩
theorem zCa (A B : List (List AV)) (P Q : List RT1) (i : Nat) (hi : i < P.length) (hA : A = P.map zq) (hB : B = Q.map zq) (hQ : Q.length <= 500) : ∀ (d k f : Nat), k + d = Q.length -> d < f -> ∃ y, (Zz 600).L f (A, B, (i : Int), (k : Int)) = some y /\ ((P[i] ∈ Q.drop k /\ y = .inl (A, B, true, (i : Int))) \/ (P[i] ∉ Q.drop k /\ y = .inr (A, B, (i : Int)))) := by
 subst hA hB
 intro d
 induction d with
 | zero =>
  intro k f hk hf
  obtain ⟨f, rfl⟩ := pS hf
  refine ⟨_, ?_, .inr ⟨by rw [List.drop_eq_nil_of_le (by omega)]; simp, rfl⟩⟩
  show (Zz 600).b _ _ ((Zz 600).L f) some = _
  simp only [Zz]
  have e2 : decide ((k : Int) < (Q.length : Int)) = false := dF (by omega)
  simp only [List.length_map, e2]
 | succ d ih =>
  intro k f hk hf
  obtain ⟨f, rfl⟩ := pS hf
  have hkl : k < Q.length := by omega
  have e2 : decide ((k : Int) < (Q.length : Int)) = true := dT (by omega)
  have e3 : (0 : Int) <= (k : Int) := by omega
  have e4 : (0 : Int) <= (i : Int) := by omega
  by_cases hc : P[i] = Q[k]
  ·refine ⟨_, ?_, .inl ⟨(zw hkl _).2 (.inl hc), rfl⟩⟩
   show (Zz 600).b _ _ ((Zz 600).L f) some = _
   simp only [Zz]
   have e5 : eqP P[i] Q[k] = true := by rw [hc]; exact Jr _
   simp only [List.length_map, e2, e3, e4, if_true, Int.toNat_natCast, zbe Q k hkl, zbe P i hi, Zq, e5]
  ·obtain ⟨y, r1, r2⟩ := ih (k + 1) f (by omega) (by omega)
   refine ⟨y, ?_, ?_⟩
   ·show (Zz 600).b _ _ ((Zz 600).L f) some = _
    generalize (Zz 600).L f = Lf at r1 |-
    simp only [Zz]
    have e5 : eqP P[i] Q[k] = false := za9 hc
    simp only [List.length_map, e2, e3, e4, if_true, Int.toNat_natCast, zbe Q k hkl, zbe P i hi, Zq, e5, zp (show k < 1000000 by omega)]
    exact r1
   ·rcases r2 with ⟨h1, h2⟩ | ⟨h1, h2⟩
    ·exact .inl ⟨(zw hkl _).2 (.inr h1), h2⟩
    ·exact .inr ⟨fun h => ((zw hkl _).1 h).elim hc h1, h2⟩
theorem zzw (P Q : List RT1) (hP : P.length <= 500) (hQ : Q.length <= 500) : ∀ (d k f : Nat), k + d = P.length -> d < f -> ∃ y, (je 600).L f (P.map zq, Q.map zq, (k : Int)) = some y /\ ((Com (P.drop k) Q /\ y = .inl true) \/ (¬ Com (P.drop k) Q /\ y = .inr ())) := by
 intro d
 induction d with
 | zero =>
  intro k f hk hf
  obtain ⟨f, rfl⟩ := pS hf
  refine ⟨_, ?_, .inr ⟨by (rw [List.drop_eq_nil_of_le (by omega)]; rintro ⟨p, h, -⟩; cases h), rfl⟩⟩
  show (je 600).b _ _ ((je 600).L f) some = _
  simp only [je]
  have e2 : decide ((k : Int) < (P.length : Int)) = false := dF (by omega)
  simp only [List.length_map, e2]
 | succ d ih =>
  intro k f hk hf
  obtain ⟨f, rfl⟩ := pS hf
  have hkl : k < P.length := by omega
  have e2 : decide ((k : Int) < (P.length : Int)) = true := dT (by omega)
  obtain ⟨z, q1, q2⟩ := zCa _ _ P Q k hkl rfl rfl hQ Q.length 0 600 (by omega) (by omega)
  replace q1 : (Zz 600).L 600 (P.map zq, Q.map zq, (k : Int), 0) = some z := q1
  rw [List.drop_zero] at q2
  rcases q2 with ⟨g1, rfl⟩ | ⟨g1, rfl⟩
  ·refine ⟨_, ?_, .inl ⟨⟨P[k], (zw hkl _).2 (.inl rfl), g1⟩, rfl⟩⟩
   show (je 600).b _ _ ((je 600).L f) some = _
   simp only [je]
   simp only [List.length_map, e2, ziv, q1]
  ·obtain ⟨y, r1, r2⟩ := ih (k + 1) f (by omega) (by omega)
   refine ⟨y, ?_, ?_⟩
   ·show (je 600).b _ _ ((je 600).L f) some = _
    generalize (je 600).L f = Lf at r1 |-
    simp only [je]
    simp only [List.length_map, e2, ziv, q1, zp (show k < 1000000 by omega)]
    exact r1
   ·rcases r2 with ⟨⟨p, h1, h2⟩, h3⟩ | ⟨h1, h2⟩
    ·exact .inl ⟨⟨p, (zw hkl _).2 (.inr h1), h2⟩, h3⟩
    ·refine .inr ⟨fun ⟨p, h, h'⟩ => ?_, h2⟩
     rcases (zw hkl _).1 h with e | e
     ·subst e; exact g1 h'
     ·exact h1 ⟨p, e, h'⟩
theorem zEr (P Q : List RT1) (hP : P.length <= 500) (hQ : Q.length <= 500) : ∃ b, zvF 600 (P.map zq, Q.map zq) = some b /\ (b = true ↔ Com P Q) := by
 obtain ⟨y, h1, h2⟩ := zzw P Q hP hQ P.length 0 600 (by omega) (by omega)
 replace h1 : (je 600).L 600 (P.map zq, Q.map zq, 0) = some y := h1
 rw [List.drop_zero] at h2
 simp only [zvF, FSpec.d, zjZ, zw5, h1]
 rcases h2 with ⟨h2, rfl⟩ | ⟨h2, rfl⟩
 ·exact ⟨_, rfl, by simp [h2]⟩
 ·exact ⟨_, rfl, by simp [h2]⟩
end Go.Proofs.YthdgnfcbehcplaaDoor
end
section
namespace Go.Proofs.YthdgnfcbehcplaaDoor
theorem pk0 (e : RT0) : (((zB e).drop 9).drop 0)[0]? = some (AV.list 9 (pkE e) none) := rfl
theorem zA3 (xs : List (List AV)) : Z1 9 (AV.list 9 xs none) = some xs := by simp [Z1]
theorem zkk (A : List RT0) (P : List RT1) (i : Nat) (hi : i <= A.length) (hA : A.length <= 500) (hP : P.length <= 500) (h : ∀ k (h : k < A.length), k < i -> ∃ Q : List RT1, Q.length <= 500 /\ pkE A[k] = Q.map zq /\ ¬ Com P Q) : ∀ (d k f : Nat), k + d = i -> d < f -> (Zy 600).L f (A.map zB, P.map zq, (i : Int), (k : Int)) = some (.inr (A.map zB, (i : Int))) := by
 intro d
 induction d with
 | zero =>
  intro k f hk hf
  obtain ⟨f, rfl⟩ := pS hf
  show (Zy 600).b _ _ ((Zy 600).L f) some = _
  simp only [Zy]
  have e2 : decide ((k : Int) < (i : Int)) = false := dF (by omega)
  simp only [e2]
 | succ d ih =>
  intro k f hk hf
  obtain ⟨f, rfl⟩ := pS hf
  have hkl : k < A.length := by omega
  have e2 : decide ((k : Int) < (i : Int)) = true := dT (by omega)
  have e3 : (0 : Int) <= (k : Int) := by omega
  obtain ⟨Q, q1, q2, q3⟩ := h k hkl (by omega)
  obtain ⟨b, b1, b2⟩ := zCU P Q hP q1
  obtain rfl : b = false := by cases b with | false => rfl | true => exact absurd (b2.1 rfl) q3
  have r1 := ih (k + 1) f (by omega) (by omega)
  show (Zy 600).b _ _ ((Zy 600).L f) some = _
  generalize (Zy 600).L f = Lf at r1 |-
  simp only [Zy]
  simp only [e2, e3, if_true, Int.toNat_natCast, zcp A k hkl, pk0, zA3, q2, b1, zp (show k < 1000000 by omega)]
  exact r1
theorem zdh (A : List RT0) (hA : A.length <= 5) : ∀ (R : List RT0) (k lo f : Nat), A.drop k = R -> R.length < f -> k + R.length = A.length -> Evs lo 5 R -> (∀ j (h : j < A.length), j < k -> ∃ n, n < lo /\ EvAt n A[j]) ->
  (ZH 600).L f (A.map zB, (k : Int)) = some (.inr ())
 | [], k, lo, f, hR, hf, hk, hE, hN => by
  obtain ⟨f, rfl⟩ := pS hf
  show (ZH 600).b _ _ ((ZH 600).L f) some = _
  simp only [ZH]
  have e2 : decide ((k : Int) < (A.length : Int)) = false := by rw [decide_eq_false_iff_not]; simp at hk; omega
  simp only [List.length_map, e2]
 | e :: R, k, lo, f, hR, hf, hk, hE, hN => by
  obtain ⟨f, rfl⟩ := pS hf
  rw [List.length_cons] at hf hk
  have hkl : k < A.length := by omega
  have hek : A[k] = e := by
   have := List.drop_eq_getElem_cons hkl
   rw [hR] at this
   exact (List.cons.inj this).1.symm
  obtain ⟨n, hn, hev, hE'⟩ := hE
  have hn5 := zdN hE'
  have r1 := zdh A hA R (k + 1) (n + 1) f (by rw [<- List.tail_drop, hR]; rfl) (by omega) (by omega) hE' (fun j h hj => by
   by_cases hc : j = k
   ·subst hc; exact ⟨n, by omega, by rw [hek]; exact hev⟩
   ·obtain ⟨m, h1, h2⟩ := hN j h (by omega); exact ⟨m, by omega, h2⟩)
  obtain ⟨g, c, c1, c2, c3, c4, c5, c6⟩ := hev
  have e2 : decide ((k : Int) < (A.length : Int)) = true := dT (by omega)
  have e3 : (0 : Int) <= (k : Int) := by omega
  have s1 := zuz n g c (by omega) c1 c2 c3
  have s2 := zsX n g c (by omega) c1 c2 c3
  have s3 := zsr n g c (by omega) c1 c2 c3
  have sl := zkk A (pks n g c) k (by omega) (by omega) (by rw [Jl]; omega) (fun j h hj => by
   obtain ⟨m, h1, g', c', z1, z2, z3, z4, z5, z6⟩ := hN j h hj
   refine ⟨pks m g' c', by rw [Jl]; omega, z5, fun ⟨p, q1, q2⟩ => ?_⟩
   have t1 := (zjG c2 p q1).1
   have t2 := (zjG z2 p q2).2
   omega) k 0 600 (by omega) (by omega)
  replace sl : (Zy 600).L 600 (A.map zB, (pks n g c).map zq, (k : Int), 0) = some (.inr (A.map zB, (k : Int))) := sl
  have e4 : (((pks n g c).length : Int) == 0) = false := by rw [Jl]; simp; omega
  have e5 : eqP (nmE e) (pick n g) = true := by rw [c4]; exact Jr _
  show (ZH 600).b _ _ ((ZH 600).L f) some = _
  generalize (ZH 600).L f = Lf at r1 |-
  simp only [ZH]
  simp only [List.length_map, e2, e3, if_true, Int.toNat_natCast, zcp A k hkl, hek, pk0, zA3, c5, e4, nm0, s1, s2, s3, e5, Bool.not_true]
  by_cases hk0 : (k : Int) > 0
  ·have hk1 : i64 ((k : Int) - 1) = ((k - 1 : Nat) : Int) := by rw [zX (by omega)]; omega
   obtain ⟨n', z0, g', c', z1, z2, z3, z4, z5, z6⟩ := hN (k - 1) (by omega) (by omega)
   have hl := (zp9 n' n g' g (by omega) (by omega) z3 c3).2
   rw [<- c4] at hl
   rw [<- z4] at hl
   have e6 : decide ((-1 : Int) >= 0) = false := by decide
   have e7 : (0 : Int) <= ((k - 1 : Nat) : Int) := by omega
   simp only [hk0, decide_true, hk1, e7, if_true, Int.toNat_natCast, zcp A (k - 1) (by omega), nm0, hl, e6, zdI, sl, zp (show k < 1000000 by omega)]
   exact r1
  ·simp only [hk0, decide_false, zdI, sl, zp (show k < 1000000 by omega)]
   exact r1
theorem zbV {A : List RT0} {m : Nat} (hm : m <= 5) (h : Evs 0 m A) : zc3 600 (A.map zB) = some true := by
 have hl := zdN h
 have := zdh A (by omega) A 0 0 600 rfl (by omega) (by omega) (h.mono hm) (fun j _ hj => by omega)
 replace this : (ZH 600).L 600 (A.map zB, 0) = some (.inr ()) := this
 simp only [zc3, FSpec.d, zif, zoT, this]
end Go.Proofs.YthdgnfcbehcplaaDoor
end
section
namespace Go.Proofs.YthdgnfcbehcplaaDoor
theorem zcq : zoD 600 () = some true := by kernel_rfl
theorem f8a (N : Nat) (x) : ja N x = zdw N x := by kernel_rfl
theorem f7a (N : Nat) (x) : zBP N x = zDz N x := by kernel_rfl
theorem f9a (N : Nat) (x) : zvq N x = zwf N x := by kernel_rfl
@[reducible] def kdV (v : RT7) : Int := v.1
@[reducible] def atV (v : RT7) : Int := v.2.1
@[reducible] def byV (v : RT7) : ByteArray := v.2.2.1
@[reducible] def inV (v : RT7) : Int := v.2.2.2.1
@[reducible] def evV (v : RT7) : RT0 := v.2.2.2.2
def zzW (x : List RT7) : List AV := [AV.list 29 (x.map zN) none]
def zG (C : List (List RT7)) : List (List AV) := C.map zzW
theorem zS (C : List (List RT7)) : (zG C).length = C.length := by simp [zG]
theorem zT (C : List (List RT7)) (k : Nat) (h : k < C.length) : (zG C)[k]? = some (zzW C[k]) := by simp [zG, h]
theorem zyu (x : List RT7) : zfU (zzW x) = some (x.map zN, ()) := by
 show dec RK6 [AV.list 29 (x.map zN) none] = _
 simp only [dec, znx, Z1, if_true]
theorem zdc (x : List RT7) : ((zzW x).drop 0)[0]? = some (AV.list 29 (x.map zN) none) := rfl
theorem zhw (xs : List (List AV)) : Z1 29 (AV.list 29 xs none) = some xs := by simp [Z1]
theorem zt3 (P : List RT7) (k : Nat) (h : k < P.length) : (P.map zN)[k]? = some (zN P[k]) := by simp [h]
theorem rd7 (v : RT7) : zlq (zN v) = some v := zzM v
def ann : ByteArray := ⟨#[97, 110, 110]⟩
def bob : ByteArray := ⟨#[98, 111, 98]⟩
def nob : ByteArray := ⟨#[]⟩
def Per (b : ByteArray) : Prop := b = ann \/ b = bob
theorem ziU {b : ByteArray} (h : Per b) : zqT 600 b = some true /\ zqB 600 b = some true /\ (b.toList == nob.toList) = false := by
 rcases h with rfl | rfl
 ·exact ⟨by kernel_rfl, by kernel_rfl, by kernel_rfl⟩
 ·exact ⟨by kernel_rfl, by kernel_rfl, by kernel_rfl⟩
def ZW (k : Int) : Bool := k == 1 || (k == 2 || k == 6)
def za7 (k : Int) : Bool := k == 1 || (k == 3 || k == 6)
def zB5 (k u : Int) : Bool := if k = 1 then ZW u else if k = 2 then (u == 1 || u == 6) else if k = 6 then !(ZW u) else true
def zaz (k : Int) : Bool := k != 1 && k != 3
theorem zpL (N : Nat) (v : RT7) : zhK N v = some (ZW (kdV v)) := by
 simp only [zhK, FSpec.d, zkg, ZW]
 cases v.1 == 1 <;> cases v.1 == 2 <;> cases v.1 == 6 <;> rfl
theorem zys (N : Nat) (v : RT7) : zyf N v = some (za7 (kdV v)) := by
 simp only [zyf, FSpec.d, zkq, za7]
 cases v.1 == 1 <;> cases v.1 == 3 <;> cases v.1 == 6 <;> rfl
theorem zCe (N : Nat) (v u : RT7) : zko N (v, u) = some (zB5 (kdV v) (kdV u)) := by
 simp only [zko, FSpec.d, zj1, zB5, zpL]
 by_cases h1 : v.1 = 1
 ·simp [h1]
 ·by_cases h2 : v.1 = 2
  ·simp [h2]
   cases u.1 == 1 <;> simp
  ·by_cases h6 : v.1 = 6
   ·simp [h6]
   ·have e1 : (v.1 == 1) = false := by simpa using h1
    have e2 : (v.1 == 2) = false := by simpa using h2
    have e6 : (v.1 == 6) = false := by simpa using h6
    simp only [e1, e2, e6, if_neg h1, if_neg h2, if_neg h6]
theorem znN (N : Nat) (k : Int) : zhI N k = some (zaz k) := by
 simp only [zhI, FSpec.d, zki, zaz]
 cases k != 1 <;> simp
def Kd6 (k : Int) : Prop := k = 1 \/ k = 2 \/ k = 3 \/ k = 4 \/ k = 5 \/ k = 6
theorem zv6 {k : Int} (h : Kd6 k) : zuN 600 k = some (ZW k) := by
 rcases h with rfl | rfl | rfl | rfl | rfl | rfl <;> kernel_rfl
theorem zrU {k : Int} (h : Kd6 k) : ((gtab3.map AV.v).drop (k.toNat * 1))[0]? = some (.v (.bool (k == 1 || k == 2))) := by
 rcases h with rfl | rfl | rfl | rfl | rfl | rfl <;> kernel_rfl
theorem zjM {k : Int} (h : Kd6 k) : ((gtab2.map AV.v).drop (k.toNat * 1))[0]? = some (.v (.bool (zaz k))) := by
 rcases h with rfl | rfl | rfl | rfl | rfl | rfl <;> kernel_rfl
theorem zsW {k : Int} (h : Kd6 k) : ((gtab0.map AV.v).drop (k.toNat * 1))[0]? = some (.v (.bool (za7 k))) := by
 rcases h with rfl | rfl | rfl | rfl | rfl | rfl <;> kernel_rfl
theorem zzE {k u : Int} (h : Kd6 k) (hu : Kd6 u) : (((gtab1.map AV.v).drop (k.toNat * 7)).drop (u.toNat * 1))[0]? = some (.v (.bool (zB5 k u))) := by
 rcases h with rfl | rfl | rfl | rfl | rfl | rfl <;> rcases hu with rfl | rfl | rfl | rfl | rfl | rfl <;> kernel_rfl
theorem Kd6.lt {k : Int} (h : Kd6 k) : 0 <= k /\ k < 7 /\ 1 <= k /\ k <= 6 := by unfold Kd6 at h; omega
def EvN (e : RT0) : Prop := ∃ n, n < 5 /\ EvAt n e
theorem EvN.one {e : RT0} (h : EvN e) : Evs 0 5 [e] := by
 obtain ⟨n, h1, h2⟩ := h
 exact ⟨n, Nat.zero_le _, h2, by show n + 1 <= 5; omega⟩
theorem zzL {e : RT0} (h : EvN e) : zc3 600 [zB e] = some true := zbV (A := [e]) (by omega) h.one
theorem zy8 {e : RT0} (h : EvN e) : zfm 600 [zB e] = some true := zaJ (A := [e]) (by omega) h.one
theorem Evs.evn {E : List RT0} {m : Nat} (hm : m <= 5) (h : Evs 0 m E) : ∀ e ∈ E, EvN e := fun e he => by
 obtain ⟨n, _, h2, h3⟩ := h.all e he
 exact ⟨n, by omega, h3⟩
end Go.Proofs.YthdgnfcbehcplaaDoor
end
section
namespace Go.Proofs.YthdgnfcbehcplaaDoor
theorem zcw {P Q : List RT1} (h : P.map zq = Q.map zq) : P = Q := by
 have hi : ∀ a b : RT1, zq a = zq b -> a = b := fun a b h => by
  have := congrArg Jv h
  rw [Zq, Zq] at this
  exact Option.some.inj this
 induction P generalizing Q with
 | nil => cases Q with
  | nil => rfl
  | cons q Q => cases h
 | cons p P ih => cases Q with
  | nil => cases h
  | cons q Q =>
   simp only [List.map_cons, List.cons.injEq] at h
   rw [hi p q h.1, ih h.2]
theorem zxg {a e : RT0} (h1 : nmE a = nmE e) (h2 : zI a = zI e) : a = e := by
 have e1 : ∀ x : RT0, x = ((nmE x).1, (nmE x).2.1, (nmE x).2.2.1, (nmE x).2.2.2.1, (nmE x).2.2.2.2.1, (nmE x).2.2.2.2.2.1, (nmE x).2.2.2.2.2.2.1, (nmE x).2.2.2.2.2.2.2.1, (nmE x).2.2.2.2.2.2.2.2.1, zI x) := fun x => rfl
 rw [e1 a, e1 e, h1, h2]
theorem zyb (P Q : List RT1) (hl : P.length = Q.length) (hP : P.length <= 500) : ∀ (d k f : Nat), k + d = P.length -> d < f -> ∃ y, (Z9 600).L f (P.map zq, Q.map zq, (k : Int)) = some y /\ ((P.drop k = Q.drop k /\ y = .inr ()) \/ (P.drop k ≠ Q.drop k /\ y = .inl false)) := by
 intro d
 induction d with
 | zero =>
  intro k f hk hf
  obtain ⟨f, rfl⟩ := pS hf
  refine ⟨_, ?_, .inl ⟨by rw [List.drop_eq_nil_of_le (by omega), List.drop_eq_nil_of_le (by omega)], rfl⟩⟩
  show (Z9 600).b _ _ ((Z9 600).L f) some = _
  simp only [Z9]
  have e2 : decide ((k : Int) < (P.length : Int)) = false := dF (by omega)
  simp only [List.length_map, e2]
 | succ d ih =>
  intro k f hk hf
  obtain ⟨f, rfl⟩ := pS hf
  have hkl : k < P.length := by omega
  have hkq : k < Q.length := by omega
  have e2 : decide ((k : Int) < (P.length : Int)) = true := dT (by omega)
  have h0 : 0 <= (k : Int) := by omega
  have dP := List.drop_eq_getElem_cons hkl
  have dQ := List.drop_eq_getElem_cons hkq
  by_cases he : P[k] = Q[k]
  ·obtain ⟨y, r1, r2⟩ := ih (k + 1) f (by omega) (by omega)
   refine ⟨y, ?_, ?_⟩
   ·show (Z9 600).b _ _ ((Z9 600).L f) some = _
    generalize (Z9 600).L f = Lf at r1 |-
    simp only [Z9]
    have ee := Jr P[k]
    simp only [eqP] at ee
    simp only [List.length_map, e2, h0, if_true, Int.toNat_natCast, zbe P k hkl, zbe Q k hkq, Zq, <- he, ee, Bool.not_true, zp (show k < 1000000 by omega)]
    exact r1
   ·rw [dP, dQ, he]
    rcases r2 with ⟨a, b⟩ | ⟨a, b⟩
    ·exact .inl ⟨by rw [a], b⟩
    ·exact .inr ⟨fun e => a (by injection e), b⟩
  ·refine ⟨_, ?_, .inr ⟨fun e => he (by rw [dP, dQ] at e; injection e), rfl⟩⟩
   show (Z9 600).b _ _ ((Z9 600).L f) some = _
   simp only [Z9]
   have ee := za9 he
   simp only [eqP] at ee
   simp only [List.length_map, e2, h0, if_true, Int.toNat_natCast, zbe P k hkl, zbe Q k hkq, Zq, ee, Bool.not_false]
theorem zz7 (P Q : List RT1) (hP : P.length <= 500) (hQ : Q.length <= 500) : ∃ b, zid 600 (P.map zq, Q.map zq) = some b /\ (b = true ↔ P = Q) := by
 simp only [zid, FSpec.d, zlF, List.length_map]
 by_cases hl : P.length = Q.length
 ·have e1 : ((P.length : Int) != (Q.length : Int)) = false := by simp [hl]
  obtain ⟨y, h1, h2⟩ := zyb P Q hl hP P.length 0 600 (by omega) (by omega)
  replace h1 : (Z9 600).L 600 (P.map zq, Q.map zq, 0) = some y := h1
  simp only [e1, zvQ, h1]
  rw [List.drop_zero, List.drop_zero] at h2
  rcases h2 with ⟨a, rfl⟩ | ⟨a, rfl⟩
  ·exact ⟨_, rfl, by simp [a]⟩
  ·exact ⟨_, rfl, by simp [a]⟩
 ·have e1 : ((P.length : Int) != (Q.length : Int)) = true := by simp; omega
  have : P ≠ Q := fun e => hl (by rw [e])
  simp only [e1]
  exact ⟨_, rfl, by simp [this]⟩
theorem zyE (P Q : List RT1) (hl : P.length = Q.length) (hP : P.length <= 500) : ∀ (d k f : Nat), k + d = P.length -> d < f -> ∃ y, (ZC 600).L f (P.map zq, Q.map zq, (P.length : Int), (k : Int)) = some y /\ ((P.drop k = Q.drop k /\ y = .inr ()) \/ (P.drop k ≠ Q.drop k /\ y = .inl false)) := by
 intro d
 induction d with
 | zero =>
  intro k f hk hf
  obtain ⟨f, rfl⟩ := pS hf
  refine ⟨_, ?_, .inl ⟨by rw [List.drop_eq_nil_of_le (by omega), List.drop_eq_nil_of_le (by omega)], rfl⟩⟩
  show (ZC 600).b _ _ ((ZC 600).L f) some = _
  simp only [ZC]
  have e2 : decide ((k : Int) < (P.length : Int)) = false := dF (by omega)
  simp only [List.length_map, e2]
 | succ d ih =>
  intro k f hk hf
  obtain ⟨f, rfl⟩ := pS hf
  have hkl : k < P.length := by omega
  have hkq : k < Q.length := by omega
  have e2 : decide ((k : Int) < (P.length : Int)) = true := dT (by omega)
  have h0 : 0 <= (k : Int) := by omega
  have dP := List.drop_eq_getElem_cons hkl
  have dQ := List.drop_eq_getElem_cons hkq
  by_cases he : P[k] = Q[k]
  ·obtain ⟨y, r1, r2⟩ := ih (k + 1) f (by omega) (by omega)
   refine ⟨y, ?_, ?_⟩
   ·show (ZC 600).b _ _ ((ZC 600).L f) some = _
    generalize (ZC 600).L f = Lf at r1 |-
    simp only [ZC]
    have ee := Jr P[k]
    simp only [eqP] at ee
    simp only [List.length_map, e2, h0, if_true, Int.toNat_natCast, zbe P k hkl, zbe Q k hkq, Zq, <- he, ee, Bool.not_true, zp (show k < 1000000 by omega)]
    exact r1
   ·rw [dP, dQ, he]
    rcases r2 with ⟨a, b⟩ | ⟨a, b⟩
    ·exact .inl ⟨by rw [a], b⟩
    ·exact .inr ⟨fun e => a (by injection e), b⟩
  ·refine ⟨_, ?_, .inr ⟨fun e => he (by rw [dP, dQ] at e; injection e), rfl⟩⟩
   show (ZC 600).b _ _ ((ZC 600).L f) some = _
   simp only [ZC]
   have ee := za9 he
   simp only [eqP] at ee
   simp only [List.length_map, e2, h0, if_true, Int.toNat_natCast, zbe P k hkl, zbe Q k hkq, Zq, ee, Bool.not_false]
theorem zC0 (P Q : List RT1) (hP : P.length <= 500) (hQ : Q.length <= 500) : ∃ b, zgr 600 (P.map zq, Q.map zq) = some b /\ (b = true ↔ P = Q) := by
 simp only [zgr, FSpec.d, zeH, List.length_map]
 by_cases hl : P.length = Q.length
 ·have e1 : ((P.length : Int) != (Q.length : Int)) = false := by simp [hl]
  obtain ⟨y, h1, h2⟩ := zyE P Q hl hP P.length 0 600 (by omega) (by omega)
  replace h1 : (ZC 600).L 600 (P.map zq, Q.map zq, (P.length : Int), 0) = some y := h1
  simp only [e1, zpq, h1]
  rw [List.drop_zero, List.drop_zero] at h2
  rcases h2 with ⟨a, rfl⟩ | ⟨a, rfl⟩
  ·exact ⟨_, rfl, by simp [a]⟩
  ·exact ⟨_, rfl, by simp [a]⟩
 ·have e1 : ((P.length : Int) != (Q.length : Int)) = true := by simp; omega
  have : P ≠ Q := fun e => hl (by rw [e])
  simp only [e1]
  exact ⟨_, rfl, by simp [this]⟩
theorem zud (a e : RT0) (ha : zaZ a) (he : zaZ e) : ∃ b, zzs 600 (zI a, zI e) = some b /\ (b = true ↔ (zI a) = (zI e)) := by
 obtain ⟨P, hP1, hP⟩ := ha
 obtain ⟨Q, hQ1, hQ⟩ := he
 obtain ⟨b, h1, h2⟩ := zz7 P Q (by omega) (by omega)
 have h3 : zid 600 ((zI a).1, (zI e).1) = some b := by
  show zid 600 (pkE a, pkE e) = some b
  rw [hP, hQ]; exact h1
 have hpq : (zI a).1 = (zI e).1 ↔ P = Q := by
  show pkE a = pkE e ↔ P = Q
  rw [hP, hQ]
  exact ⟨fun h => zcw h, fun h => by rw [h]⟩
 generalize zI a = A at *
 generalize zI e = E at *
 simp only [zzs, FSpec.d, zk5, h3]
 cases b with
 | false => exact ⟨_, rfl, by
   constructor
   ·intro h; cases h
   ·intro h; exact absurd (h2.2 (hpq.1 (by rw [h]))) (by simp)⟩
 | true =>
  have hpe : A.1 = E.1 := hpq.2 (h2.1 rfl)
  simp only
  split
  ·rename_i c1
   split
   ·rename_i c2
    refine ⟨_, rfl, ⟨fun h => ?_, fun h => (by rw [h]; simp)⟩⟩
    simp only [Bool.and_eq_true, beq_iff_eq, and_true] at c1 c2 h
    simp [Prod.ext_iff, *]
   ·rename_i c2
    refine ⟨_, rfl, ⟨fun h => (by cases h), fun h => ?_⟩⟩
    rw [h] at c2; simp at c2
  ·rename_i c1
   refine ⟨_, rfl, ⟨fun h => (by cases h), fun h => ?_⟩⟩
   rw [h] at c1; simp at c1
theorem zh3 (a e : RT0) (ha : zaZ a) (he : zaZ e) : ∃ b, zdU 600 (a, e) = some b /\ (b = true ↔ a = e) := by
 obtain ⟨b, h1, h2⟩ := zud a e ha he
 simp only [zdU, FSpec.d, zj5, h1]
 have hae : a = e ↔ nmE a = nmE e /\ zI a = zI e := ⟨fun h => by rw [h]; exact ⟨rfl, rfl⟩, fun ⟨x, y⟩ => zxg x y⟩
 by_cases hn : nmE a = nmE e
 ·have ee := (congrArg (eqP (nmE a)) hn).symm.trans (Jr (nmE a))
  simp only [eqP] at ee
  simp only [ee]
  exact ⟨b, rfl, by rw [h2, hae]; exact ⟨fun h => ⟨hn, h⟩, fun h => h.2⟩⟩
 ·have ee := za9 hn
  simp only [eqP] at ee
  simp only [ee]
  exact ⟨_, rfl, by rw [hae]; simp [hn]⟩
theorem zrm (a e : RT0) (ha : zaZ a) (he : zaZ e) : ∃ b, zzp 600 (zI a, zI e) = some b /\ (b = true ↔ (zI a) = (zI e)) := by
 obtain ⟨P, hP1, hP⟩ := ha
 obtain ⟨Q, hQ1, hQ⟩ := he
 obtain ⟨b, h1, h2⟩ := zC0 P Q (by omega) (by omega)
 have h3 : zgr 600 ((zI a).1, (zI e).1) = some b := by
  show zgr 600 (pkE a, pkE e) = some b
  rw [hP, hQ]; exact h1
 have hpq : (zI a).1 = (zI e).1 ↔ P = Q := by
  show pkE a = pkE e ↔ P = Q
  rw [hP, hQ]
  exact ⟨fun h => zcw h, fun h => by rw [h]⟩
 generalize zI a = A at *
 generalize zI e = E at *
 simp only [zzp, FSpec.d, zlD, h3]
 cases b with
 | false => exact ⟨_, rfl, by
   constructor
   ·intro h; cases h
   ·intro h; exact absurd (h2.2 (hpq.1 (by rw [h]))) (by simp)⟩
 | true =>
  have hpe : A.1 = E.1 := hpq.2 (h2.1 rfl)
  simp only
  split
  ·rename_i c1
   split
   ·rename_i c2
    refine ⟨_, rfl, ⟨fun h => ?_, fun h => (by rw [h]; simp)⟩⟩
    simp only [Bool.and_eq_true, beq_iff_eq, and_true] at c1 c2 h
    simp [Prod.ext_iff, *]
   ·rename_i c2
    refine ⟨_, rfl, ⟨fun h => (by cases h), fun h => ?_⟩⟩
    rw [h] at c2; simp at c2
  ·rename_i c1
   refine ⟨_, rfl, ⟨fun h => (by cases h), fun h => ?_⟩⟩
   rw [h] at c1; simp at c1
theorem zzc (a e : RT0) (ha : zaZ a) (he : zaZ e) : ∃ b, zyl 600 (a, e) = some b /\ (b = true ↔ a = e) := by
 obtain ⟨b, h1, h2⟩ := zrm a e ha he
 simp only [zyl, FSpec.d, zkR, h1]
 have hae : a = e ↔ nmE a = nmE e /\ zI a = zI e := ⟨fun h => by rw [h]; exact ⟨rfl, rfl⟩, fun ⟨x, y⟩ => zxg x y⟩
 by_cases hn : nmE a = nmE e
 ·have ee := (congrArg (eqP (nmE a)) hn).symm.trans (Jr (nmE a))
  simp only [eqP] at ee
  simp only [ee]
  exact ⟨b, rfl, by rw [h2, hae]; exact ⟨fun h => ⟨hn, h⟩, fun h => h.2⟩⟩
 ·have ee := za9 hn
  simp only [eqP] at ee
  simp only [ee]
  exact ⟨_, rfl, by rw [hae]; simp [hn]⟩
theorem ziS (a e : RT0) (ha : zaZ a) (he : zaZ e) : ∃ b, zlO 600 (a, e) = some b /\ (b = true ↔ a = e) := by
 obtain ⟨b, h1, h2⟩ := zzc a e ha he
 have hL : zlZ 600 ([zB e], [zB a], 1, 0) = some (bif b then .inr () else .inl false) := by
  show (jN 600).b _ _ ((jN 600).L 599) some = _
  have e1 : decide ((0 : Int) < 1) = true := by decide
  have e3 : i64 (0 + 1) = 1 := by decide
  obtain ⟨Lf, hLf⟩ : ∃ Lf, Lf = (jN 600).L 599 := ⟨_, rfl⟩
  have hz : Lf ([zB e], [zB a], 1, 1) = some (.inr ()) := by
   rw [hLf]
   show (jN 600).b _ _ ((jN 600).L 598) some = _
   simp only [jN]
   have e2 : decide ((1 : Int) < 1) = false := by decide
   simp only [e2]
  rw [<- hLf]
  simp only [jN]
  simp only [e1, Int.le_refl, if_true, Int.toNat_zero, List.getElem?_cons_zero, ZE, h1]
  cases b with
  | true => simp only [Bool.not_true, e3, hz]; rfl
  | false => simp only [Bool.not_false]; rfl
 refine ⟨b, ?_, h2⟩
 simp only [zlO, FSpec.d, zkv, zBo, zj3, zBV, zd1, List.length_cons, List.length_nil]
 have e0 : (((0 + 1 : Nat) : Int) != ((0 + 1 : Nat) : Int)) = false := by decide
 simp only [e0]
 have hL' : zlZ 600 ([zB e], [zB a], ((0 + 1 : Nat) : Int), 0) = some (bif b then .inr () else .inl false) := hL
 simp only [hL']
 cases b <;> rfl
theorem EvN.pk {e : RT0} (h : EvN e) : zaZ e := by
 obtain ⟨n, _, h⟩ := h
 exact h.pk
end Go.Proofs.YthdgnfcbehcplaaDoor
end
section
namespace Go.Proofs.YthdgnfcbehcplaaDoor
structure EvG (e : RT0) : Prop where
 rv : zc3 600 [zB e] = some true
 pv : zfm 600 [zB e] = some true
 pk : zaZ e
theorem EvN.g {e : RT0} (h : EvN e) : EvG e := ⟨zzL h, zy8 h, h.pk⟩
theorem EvG.pv' {e : RT0} (h : EvG e) : zlv 600 e = some true := by
 have := h.pv
 simp only [zlv, FSpec.d, zkP]
 simp only [this]
structure VG (T : Int) (n i : Nat) (v : RT7) : Prop where
 kd : Kd6 (kdV v)
 at0 : 0 <= atV v
 atT : atV v <= T
 by1 : (kdV v = 1 \/ kdV v = 2) -> byV v = nob
 by2 : ¬ (kdV v = 1 \/ kdV v = 2) -> Per (byV v)
 in1 : kdV v ≠ 5 -> inV v = 0
 in2 : kdV v = 5 -> 0 <= inV v /\ inV v < n /\ inV v ≠ i
 ev : EvG (evV v)
def Stp (u v : RT7) : Prop := atV u <= atV v /\ zB5 (kdV v) (kdV u) = true /\ (zaz (kdV v) = true -> evV u = evV v)
structure XG (T : Int) (n i m : Nat) (x : List RT7) : Prop where
 ne : x ≠ []
 hd : ∀ h : 0 < x.length, kdV x[0] = 1
 vs : ∀ k (h : k < x.length), VG T n i x[k]
 st : ∀ k (h : k + 1 < x.length), Stp x[k] x[k + 1]
 le : x.length <= m
structure CG (T : Int) (m e : Nat) (C : List (List RT7)) : Prop where
 xs : ∀ k (h : k < C.length), XG T C.length k m C[k]
 le : C.length <= e
theorem VG.mono {T T' : Int} {n n' i : Nat} {v : RT7} (h : VG T n i v) (hT : T <= T') (hn : n <= n') : VG T' n' i v :=
 ⟨h.kd, h.at0, Int.le_trans h.atT hT, h.by1, h.by2, h.in1, fun e => by have := h.in2 e; omega, h.ev⟩
theorem XG.mono {T T' : Int} {n n' i m m' : Nat} {x : List RT7} (h : XG T n i m x) (hT : T <= T') (hn : n <= n') (hm : m <= m') : XG T' n' i m' x :=
 ⟨h.ne, h.hd, fun k hk => (h.vs k hk).mono hT hn, h.st, Nat.le_trans h.le hm⟩
theorem CG.mono {T T' : Int} {m m' e e' : Nat} {C : List (List RT7)} (h : CG T m e C) (hT : T <= T') (hm : m <= m') (he : e <= e') : CG T' m' e' C :=
 ⟨fun k hk => (h.xs k hk).mono hT (Nat.le_refl _) hm, Nat.le_trans h.le he⟩
theorem XG.pos {T : Int} {n i m : Nat} {x : List RT7} (h : XG T n i m x) : 0 < x.length := List.length_pos_iff.2 h.ne
theorem XG.snoc {T T' : Int} {n i m : Nat} {x : List RT7} {v : RT7} (h : XG T n i m x) (hT : T <= T') (hv : VG T' n i v) (hs : Stp (x.getLast h.ne) v) : XG T' n i (m + 1) (x ++ [v]) := by
 have hp := h.pos
 refine ⟨by simp, fun _ => ?_, fun k hk => ?_, fun k hk => ?_, by have := h.le; simp; omega⟩
 ·rw [List.getElem_append_left hp]; exact h.hd hp
 ·rw [List.getElem_append]
  split
  ·exact (h.vs k _).mono hT (Nat.le_refl _)
  ·simpa using hv
 ·simp at hk
  by_cases hl : k + 1 < x.length
  ·rw [List.getElem_append_left hl, List.getElem_append_left (by omega)]
   exact h.st k hl
  ·have e : k = x.length - 1 := by omega
   subst e
   rw [List.getLast_eq_getElem] at hs
   rw [List.getElem_append_left (by omega), List.getElem_append_right (by omega)]
   simpa using hs
theorem XG.one {T : Int} {n i m : Nat} {v : RT7} (hm : 1 <= m) (hv : VG T n i v) (h1 : kdV v = 1) : XG T n i m [v] :=
 ⟨by simp, fun _ => h1, fun k hk => by simp at hk; subst hk; exact hv, fun k hk => by simp at hk, hm⟩
theorem CG.set {T T' : Int} {m e i : Nat} {C : List (List RT7)} (h : CG T m e C) (hi : i < C.length) (hT : T <= T') {v : RT7} (hv : VG T' C.length i v) (hs : Stp (C[i].getLast (h.xs i hi).ne) v) : CG T' (m + 1) e (C.set i (C[i] ++ [v])) := by
 refine ⟨fun k hk => ?_, by simpa using h.le⟩
 simp at hk
 rw [List.length_set, List.getElem_set]
 split
 ·rename_i he; subst he; exact (h.xs i hi).snoc hT hv hs
 ·exact (h.xs k hk).mono hT (Nat.le_refl _) (by omega)
theorem CG.nil (T : Int) (m e : Nat) : CG T m e [] := ⟨fun k h => by simp at h, Nat.zero_le _⟩
theorem zBh {T : Int} {n i : Nat} {v : RT7} (h : VG T n i v) (k : Int) (X : List (List AV)) : zoE 600 ((i : Int), (n : Int), k, X, v) = some (.inr ((i : Int), (n : Int), k, X, v)) := by
 obtain ⟨hk, h0, hT, hb1, hb2, hi1, hi2, he⟩ := h
 obtain ⟨k1, a1, b1, i1, e1⟩ := v
 show (Jn 600).b _ _ ((Jn 600).L 599) some = _
 simp only [Jn]
 simp only [kdV, byV] at hk hb1 hb2
 have en : ((nob).toList == (⟨#[]⟩ : ByteArray).toList) = true := by kernel_rfl
 rcases hk with rfl | rfl | rfl | rfl | rfl | rfl
 ·rw [hb1 (by omega)]
  have e1 : ((1 : Int) == 1) = true := by decide
  simp only [e1, en, Bool.not_true]
 ·rw [hb1 (by omega)]
  have e1 : ((2 : Int) == 1) = false := by decide
  have e2 : ((2 : Int) == 2) = true := by decide
  simp only [e1, e2, en, Bool.not_true]
 all_goals
  have hp := (ziU (hb2 (by omega))).1
  simp only [hp]
  rfl
theorem zgb {T : Int} {n i m : Nat} {x : List RT7} (hT : T <= 18014398509481984) (hn : n <= 10000) (hm : m <= 100) (h : XG T n i m x) (hi : i < n) : ∀ (d k f : Nat), k + d = x.length -> d < f -> (jF 600).L f ((i : Int), (n : Int), (k : Int), x.map zN) = some (.inr (x.map zN)) := by
 intro d
 induction d with
 | zero =>
  intro k f hk hf
  obtain ⟨f, rfl⟩ := pS hf
  show (jF 600).b _ _ ((jF 600).L f) some = _
  have e2 : decide ((k : Int) < (x.length : Int)) = false := dF (by omega)
  simp only [jF]
  simp only [List.length_map, e2]
 | succ d ih =>
  intro k f hk hf
  obtain ⟨f, rfl⟩ := pS hf
  have hkl : k < x.length := by omega
  have r1 := ih (k + 1) f (by omega) (by omega)
  show (jF 600).b _ _ ((jF 600).L f) some = _
  generalize (jF 600).L f = Lf at r1 |-
  have e2 : decide ((k : Int) < (x.length : Int)) = true := dT (by omega)
  have h0 : 0 <= (k : Int) := by omega
  have hle := h.le
  have hv := h.vs k hkl
  have c1 : decide (x[k].1 < 1) = false := by rw [decide_eq_false_iff_not]; have := hv.kd.lt; simp only [kdV] at this; omega
  have c2 : decide (x[k].1 > 6) = false := by rw [decide_eq_false_iff_not]; have := hv.kd.lt; simp only [kdV] at this; omega
  have c3 : decide (x[k].2.1 < 0) = false := by rw [decide_eq_false_iff_not]; have := hv.at0; simp only [atV] at this; omega
  have c4 : decide (x[k].2.1 > 18014398509481984) = false := by rw [decide_eq_false_iff_not]; have := hv.atT; simp only [atV] at this; omega
  have c5 : zc3 600 [zB (zx x[k])] = some true := hv.ev.rv
  have c6 := zBh hv (k : Int) (x.map zN)
  have c7 : ∀ (b : Bool), (b = true ↔ x[k].2.2.2.1 = 0) -> (x[k].2.2.2.1 != 0) = !b := fun b hb => by
   cases b
   ·simp; intro e; simpa using hb.2 e
   ·simp [hb.1 rfl]
  simp only [jF]
  simp only [List.length_map, e2, h0, if_true, Int.toNat_natCast, zt3 x k hkl, rd7, c1, c2, c3, c4, c5, Bool.not_true, c6]
  by_cases k5 : x[k].1 = 5
  ·have d1 : (x[k].1 != 5) = false := by simp [k5]
   have d2 : (x[k].1 == 5) = true := by simp [k5]
   obtain ⟨p1, p2, p3⟩ := hv.in2 k5
   simp only [inV] at p1 p2 p3
   have d3 : decide (x[k].2.2.2.1 < 0) = false := dF (by omega)
   have d4 : decide (x[k].2.2.2.1 >= (n : Int)) = false := dF (by omega)
   have d5 : (x[k].2.2.2.1 == (i : Int)) = false := by simpa using p3
   simp only [d1, d2, d3, d4, d5]
   by_cases hk0 : k = 0
   ·exfalso
    subst hk0
    have := h.hd hkl
    simp only [kdV] at this
    omega
   ·have d6 : ((k : Int) == 0) = false := by simp [hk0]
    obtain ⟨k', rfl⟩ : ∃ k', k = k' + 1 := ⟨k - 1, by omega⟩
    obtain ⟨s1, s2, s3⟩ := h.st k' hkl
    have d7 : i64 (((k' + 1 : Nat) : Int) - 1) = (k' : Int) := by rw [zX (by omega)]; omega
    have d8 : decide (x[k' + 1].2.1 < x[k'].2.1) = false := by rw [decide_eq_false_iff_not]; simp only [atV] at s1; omega
    have d9 := zCe 600 x[k' + 1] x[k']
    have d10 := znN 600 x[k' + 1].1
    have h0' : 0 <= (k' : Int) := by omega
    have n1 := zp (k := k' + 1) (by omega)
    rw [s2] at d9
    simp only [d6, d7, h0', if_true, Int.toNat_natCast, zt3 x k' (by omega), rd7, d8, d9, Bool.not_true, d10, n1]
    cases hkp : zaz x[k' + 1].1 with
    | false => exact r1
    | true =>
     have s4 := s3 hkp
     obtain ⟨b, q1, q2⟩ := zh3 (evV x[k']) (evV x[k' + 1]) (h.vs k' (by omega)).ev.pk hv.ev.pk
     rw [q2.2 s4] at q1
     replace q1 : zdU 600 (zx x[k'], zx x[k' + 1]) = some true := q1
     simp only [q1, Bool.not_true]
     exact r1
  ·have d1 : (x[k].1 != 5) = true := by simp [k5]
   have d2 : (x[k].1 == 5) = false := by simp [k5]
   have d3 : (x[k].2.2.2.1 != 0) = false := by have := hv.in1 k5; simp only [inV] at this; simp [this]
   simp only [d1, d2, d3]
   by_cases hk0 : k = 0
   ·subst hk0
    have d6 : (((0 : Nat) : Int) == 0) = true := by decide
    have d7 : (x[0].1 != 1) = false := by have := h.hd hkl; simp only [kdV] at this; simp [this]
    have n1 := zp (k := 0) (by omega)
    simp only [d6, d7, n1]
    exact r1
   ·have d6 : ((k : Int) == 0) = false := by simp [hk0]
    obtain ⟨k', rfl⟩ : ∃ k', k = k' + 1 := ⟨k - 1, by omega⟩
    obtain ⟨s1, s2, s3⟩ := h.st k' hkl
    have d7 : i64 (((k' + 1 : Nat) : Int) - 1) = (k' : Int) := by rw [zX (by omega)]; omega
    have d8 : decide (x[k' + 1].2.1 < x[k'].2.1) = false := by rw [decide_eq_false_iff_not]; simp only [atV] at s1; omega
    have d9 := zCe 600 x[k' + 1] x[k']
    have d10 := znN 600 x[k' + 1].1
    have h0' : 0 <= (k' : Int) := by omega
    have n1 := zp (k := k' + 1) (by omega)
    rw [s2] at d9
    simp only [d6, d7, h0', if_true, Int.toNat_natCast, zt3 x k' (by omega), rd7, d8, d9, Bool.not_true, d10, n1]
    cases hkp : zaz x[k' + 1].1 with
    | false => exact r1
    | true =>
     have s4 := s3 hkp
     obtain ⟨b, q1, q2⟩ := zh3 (evV x[k']) (evV x[k' + 1]) (h.vs k' (by omega)).ev.pk hv.ev.pk
     rw [q2.2 s4] at q1
     replace q1 : zdU 600 (zx x[k'], zx x[k' + 1]) = some true := q1
     simp only [q1, Bool.not_true]
     exact r1
end Go.Proofs.YthdgnfcbehcplaaDoor
end
section
namespace Go.Proofs.YthdgnfcbehcplaaDoor
theorem rd6 (x : List RT7) : zfU (zzW x) = some (x.map zN, ()) := zyu x
theorem zvr {T : Int} {n i m : Nat} {x : List RT7} (hT : T <= 18014398509481984) (hn : n <= 10000) (hm : m <= 100) (h : XG T n i m x) (hi : i < n) : zzi 600 (x.map zN, (i : Int), (n : Int)) = some true := by
 have h1 : (jF 600).L 600 ((i : Int), (n : Int), 0, x.map zN) = some (.inr (x.map zN)) := zgb hT hn hm h hi x.length 0 600 (by omega) (by have := h.le; omega)
 have hp := h.pos
 have hl := h.le
 simp only [zzi, FSpec.d, zec, zw4, h1, List.length_map]
 have e1 : decide ((x.length : Int) >= 1) = true := dT (by omega)
 have e2 : decide ((x.length : Int) <= 100) = true := dT (by omega)
 simp only [e1, e2]
theorem zkh {T : Int} {m e : Nat} {C : List (List RT7)} (hT : T <= 18014398509481984) (he : e <= 500) (hm : m <= 100) (h : CG T m e C) : ∀ (d k f : Nat), k + d = C.length -> d < f -> (jJ 600).L f ((k : Int), zG C) = some (.inr (zG C)) := by
 intro d
 induction d with
 | zero =>
  intro k f hk hf
  obtain ⟨f, rfl⟩ := pS hf
  show (jJ 600).b _ _ ((jJ 600).L f) some = _
  have e2 : decide ((k : Int) < (C.length : Int)) = false := dF (by omega)
  simp only [jJ]
  simp only [zS, e2]
 | succ d ih =>
  intro k f hk hf
  obtain ⟨f, rfl⟩ := pS hf
  have hkl : k < C.length := by omega
  have r1 := ih (k + 1) f (by omega) (by omega)
  show (jJ 600).b _ _ ((jJ 600).L f) some = _
  generalize (jJ 600).L f = Lf at r1 |-
  have e2 : decide ((k : Int) < (C.length : Int)) = true := dT (by omega)
  have h0 : 0 <= (k : Int) := by omega
  have hle := h.le
  have v1 := zvr hT (by omega) hm (h.xs k hkl) hkl
  simp only [jJ]
  simp only [zS, e2, h0, if_true, Int.toNat_natCast, zT C k hkl, rd6, v1, Bool.not_true, zp (show k < 1000000 by omega)]
  exact r1
theorem zpJ {T : Int} {m e : Nat} {C : List (List RT7)} (hT : T <= 18014398509481984) (he : e <= 500) (hm : m <= 100) (h : CG T m e C) : zrs 600 (zG C) = some true := by
 have hle := h.le
 have h1 : (jJ 600).L 600 (0, zG C) = some (.inr (zG C)) := zkh hT he hm h C.length 0 600 (by omega) (by omega)
 simp only [zrs, FSpec.d, zd9, zw9, h1, zS]
 have e2 : decide ((C.length : Int) <= 500) = true := dT (by omega)
 simp only [e2]
theorem zeG (x : List RT7) (h : x ≠ []) (hl : x.length <= 1000) : zim 600 (x.map zN) = some (x.getLast h) := by
 have hp := List.length_pos_iff.2 h
 have e1 : i64 ((x.length : Int) - 1) = ((x.length - 1 : Nat) : Int) := by rw [zX (by omega)]; omega
 have h0 : 0 <= ((x.length - 1 : Nat) : Int) := by omega
 simp only [zim, FSpec.d, zdZ, List.length_map, e1, h0, if_true, Int.toNat_natCast, zt3 x (x.length - 1) (by omega), rd7]
 rw [List.getLast_eq_getElem]
theorem zjJ (x : List RT7) (h : x ≠ []) (hl : x.length <= 1000) : zoc 600 (x.map zN) = some (x.getLast h) := zeG x h hl
theorem XG.last {T : Int} {n i m : Nat} {x : List RT7} (h : XG T n i m x) : VG T n i (x.getLast h.ne) := by
 rw [List.getLast_eq_getElem]
 exact h.vs _ _
theorem zh0 {T : Int} {m e : Nat} {C : List (List RT7)} {now : Int} (hT : T <= now) (he : e <= 500) (hm : m <= 100) (h : CG T m e C) : ∀ (d k f : Nat), k + d = C.length -> d < f -> (jE 600).L f (now, (k : Int), zG C) = some (.inr ()) := by
 intro d
 induction d with
 | zero =>
  intro k f hk hf
  obtain ⟨f, rfl⟩ := pS hf
  show (jE 600).b _ _ ((jE 600).L f) some = _
  have e2 : decide ((k : Int) < (C.length : Int)) = false := dF (by omega)
  simp only [jE]
  simp only [zS, e2]
 | succ d ih =>
  intro k f hk hf
  obtain ⟨f, rfl⟩ := pS hf
  have hkl : k < C.length := by omega
  have r1 := ih (k + 1) f (by omega) (by omega)
  show (jE 600).b _ _ ((jE 600).L f) some = _
  generalize (jE 600).L f = Lf at r1 |-
  have e2 : decide ((k : Int) < (C.length : Int)) = true := dT (by omega)
  have h0 : 0 <= (k : Int) := by omega
  have hle := h.le
  have hx := h.xs k hkl
  have v1 := zeG C[k] hx.ne (by have := hx.le; omega)
  have v2 : decide ((C[k].getLast hx.ne).2.1 > now) = false := by rw [decide_eq_false_iff_not]; have := hx.last.atT; simp only [atV] at this; omega
  simp only [jE]
  simp only [zS, e2, h0, if_true, Int.toNat_natCast, zT C k hkl, rd6, v1, v2, zp (show k < 1000000 by omega)]
  exact r1
theorem zja {T : Int} {m e : Nat} {C : List (List RT7)} {now : Int} (hT : T <= now) (he : e <= 500) (hm : m <= 100) (h : CG T m e C) : zvJ 600 (zG C, now) = some true := by
 have hle := h.le
 have h1 : (jE 600).L 600 (now, 0, zG C) = some (.inr ()) := zh0 hT he hm h C.length 0 600 (by omega) (by omega)
 simp only [zvJ, FSpec.d, zdS, zwR, h1]
def FC (D : List (List RT7)) (k : Nat) (cs : List AV) : Prop := cs.length = D.length /\ ∀ i (h : i < D.length), ∃ t, cs[i]? = some (AV.list 29 (D[i].map zN) t) /\ (t = none \/ t = some (TOB + i)) /\ (k <= i -> t = some (TOB + i))
theorem FC.nil : FC [] 0 [] := ⟨rfl, fun i h => by simp at h⟩
theorem FC.to {D : List (List RT7)} {k l : Nat} {cs : List AV} (h : FC D k cs) (hl : k <= l) : FC D l cs :=
 ⟨h.1, fun i hi => by obtain ⟨t, h1, h2, h3⟩ := h.2 i hi; exact ⟨t, h1, h2, fun e => h3 (by omega)⟩⟩
theorem FC.mp {D : List (List RT7)} {k : Nat} {cs : List AV} (h : FC D k cs) (g : AV -> AV) (hg : ∀ i xs t, i < D.length -> t = none \/ t = some (TOB + i) -> g (AV.list 29 xs t) = AV.list 29 xs t) : cs.map g = cs := by
 refine List.ext_getElem (by simp) fun i h1 h2 => ?_
 have hi : i < D.length := by rw [<- h.1]; exact h2
 obtain ⟨t, e1, e2, _⟩ := h.2 i hi
 rw [List.getElem?_eq_getElem h2] at e1
 rw [List.getElem_map, Option.some.inj e1, hg i _ t hi e2]
theorem FC.dF {D : List (List RT7)} {k : Nat} {cs : List AV} (h : FC D k cs) : cs.map datF = cs := h.mp datF fun i xs t _ ht => by
 rcases ht with rfl | rfl
 ·rfl
 ·have : Nat.ble TOB (TOB + i) = true := Nat.ble_eq_true_of_le (by omega)
  simp only [datF, this, cond_true]
theorem FC.dJ {D : List (List RT7)} {k : Nat} {cs : List AV} (h : FC D k cs) : cs.map (datJ 0 D.length) = cs := h.mp _ fun i xs t hi ht => by
 rcases ht with rfl | rfl
 ·rfl
 ·have : Nat.ble (TOB + 0) (TOB + i) = true := Nat.ble_eq_true_of_le (by omega)
  have h2 : Nat.ble (TOB + D.length) (TOB + i) = false := by
   cases hb : Nat.ble (TOB + D.length) (TOB + i) with
   | false => rfl
   | true => have := Nat.le_of_ble_eq_true hb; omega
  simp only [datJ, this, h2, Bool.not_false, Bool.and_self, cond_true]
def zaw (D : List (List RT7)) : List AV := D.map fun x => AV.list 29 (x.map zN) none
theorem zaU (D : List (List RT7)) : (zaw D).length = D.length := by simp [zaw]
theorem FC.d0 {D : List (List RT7)} {k : Nat} {cs : List AV} (h : FC D k cs) : cs.map dat0 = zaw D := by
 refine List.ext_getElem (by simp [zaw, h.1]) fun i h1 h2 => ?_
 have hi : i < D.length := by simpa [zaw] using h2
 have h3 : i < cs.length := by rw [h.1]; exact hi
 obtain ⟨t, e1, e2, _⟩ := h.2 i hi
 rw [List.getElem?_eq_getElem h3] at e1
 rw [List.getElem_map, Option.some.inj e1]
 simp only [zaw, List.getElem_map]
 rcases e2 with rfl | rfl <;> rfl
theorem jV (D : List (List RT7)) : (zaw D).map dat0 = zaw D := by
 simp only [zaw, List.map_map]; rfl
theorem zvi (C D : List (List RT7)) : zaw C ++ zaw D = zaw (C ++ D) := by simp [zaw]
theorem zdy : ∀ (D : List (List RT7)), zK (zaw D) 1 D.length = zG D
 | [] => rfl
 | x :: D => by
  show _ :: _ = _ :: _
  congr 1
  exact zdy D
theorem zeE (D : List (List RT7)) : zK ((zaw D).take (D.length * 1)) 1 D.length = zG D := by
 rw [Nat.mul_one, List.take_of_length_le (by simp [zaw]), zdy]
theorem FC.set {D : List (List RT7)} {k : Nat} {cs : List AV} (h : FC D k cs) (hk : k < D.length) (y : List RT7) {q : Nat} (hq : q < TOB) : FC (D.set k y) (k + 1) ((splice cs k [AV.list 29 (y.map zN) (some q)]).map datF) := by
 refine ⟨by simp [splice, h.1], fun i hi => ?_⟩
 simp at hi
 have h3 : i < cs.length := by rw [h.1]; exact hi
 obtain ⟨t, e1, e2, e3⟩ := h.2 i hi
 rw [List.getElem?_eq_getElem h3] at e1
 by_cases e : k = i
 ·subst e
  refine ⟨none, ?_, .inl rfl, fun e => by omega⟩
  have : Nat.ble TOB q = false := by
   cases hb : Nat.ble TOB q with
   | false => rfl
   | true => have := Nat.le_of_ble_eq_true hb; omega
  show ((cs.set k _).map _)[k]? = _
  rw [List.getElem?_map, List.getElem?_set_self h3, List.getElem_set_self]
  simp only [Option.map, datF, this, cond_false]
 ·refine ⟨t, ?_, e2, fun e' => e3 (by omega)⟩
  show ((cs.set k _).map _)[i]? = _
  rw [List.getElem?_map, List.getElem?_set_ne e, List.getElem?_eq_getElem h3, List.getElem_set_ne e, Option.some.inj e1]
  rcases e2 with rfl | rfl
  ·rfl
  ·have : Nat.ble TOB (TOB + i) = true := Nat.ble_eq_true_of_le (by omega)
   simp only [Option.map, datF, this, cond_true]
theorem FC.snoc {D : List (List RT7)} {cs : List AV} (h : FC D 0 cs) (y : List RT7) : FC (D ++ [y]) 0 ((cs.take (D.length * 1) ++ [AV.list 29 (y.map zN) (some (TOB + D.length))]).map datF) := by
 rw [Nat.mul_one, <- h.1, List.take_length, List.map_append, h.dF]
 have hb : Nat.ble TOB (TOB + cs.length) = true := Nat.ble_eq_true_of_le (by omega)
 simp only [List.map, datF, hb, cond_true]
 refine ⟨by simp [h.1], fun i hi => ?_⟩
 simp at hi
 by_cases e : i < D.length
 ·obtain ⟨t, e1, e2, e3⟩ := h.2 i e
  refine ⟨t, ?_, e2, e3⟩
  rw [List.getElem?_append_left (by rw [h.1]; exact e), e1, List.getElem_append_left e]
 ·obtain rfl : i = D.length := by omega
  refine ⟨some (TOB + D.length), ?_, .inr rfl, fun _ => rfl⟩
  rw [List.getElem?_append_right (by rw [h.1]; omega), List.getElem_append_right (by omega)]
  simp [h.1]
theorem zl8 {m e : Nat} {C : List (List RT7)} (he : C.length <= 500) (hm : ∀ x ∈ C, x.length <= 1000) (X : List (List AV)) : ∀ (d k f : Nat) (cs : List AV), k + d = C.length -> d < f -> FC (C.take k) 0 cs -> ∃ cs', (ZV 600).L f ((k : Int), zG C, X, k, cs, 0, k) = some (X, C.length, cs', 0, C.length) /\ FC C 0 cs' := by
 intro d
 induction d with
 | zero =>
  intro k f cs hk hf hc
  obtain ⟨f, rfl⟩ := pS hf
  obtain rfl : k = C.length := by omega
  rw [List.take_length] at hc
  refine ⟨cs, ?_, hc⟩
  show (ZV 600).b _ _ ((ZV 600).L f) some = _
  have e2 : decide ((C.length : Int) < (C.length : Int)) = false := dF (by omega)
  simp only [ZV]
  simp only [zS, e2, hc.dF]
 | succ d ih =>
  intro k f cs hk hf hc
  obtain ⟨f, rfl⟩ := pS hf
  have hkl : k < C.length := by omega
  have hn := hc.snoc C[k]
  have hlk : (C.take k).length = k := by simp; omega
  rw [hlk, List.take_append_getElem] at hn
  obtain ⟨cs', r1, r2⟩ := ih (k + 1) f _ (by omega) (by omega) hn
  refine ⟨cs', ?_, r2⟩
  show (ZV 600).b _ _ ((ZV 600).L f) some = _
  generalize (ZV 600).L f = Lf at r1 |-
  have e2 : decide ((k : Int) < (C.length : Int)) = true := dT (by omega)
  have h0 : 0 <= (k : Int) := by omega
  have hx := hm C[k] (List.getElem_mem _)
  have b1 : ((([] : List (List AV)).length + (C[k].map zN).length) * 288 <= zh) = True := by unfold zh; simp; omega
  have b2 : ((True /\ 0 <= k) /\ k * 1 <= cs.length /\ (k + 1) * 24 <= zh) = True := by rw [hc.1, hlk]; unfold zh; simp; omega
  simp only [ZV]
  simp only [zS, e2, h0, if_true, Int.toNat_natCast, zT C k hkl, zdc, zhw, b1, b2, List.nil_append, zp (show k < 1000000 by omega)]
  exact r1
theorem zwU {C : List (List RT7)} (he : C.length <= 500) (hm : ∀ x ∈ C, x.length <= 1000) : ∃ cs, zgm 600 (zG C) = some (C.length, cs, 0, C.length) /\ FC C 0 cs := by
 obtain ⟨cs, h1, h2⟩ := zl8 (m := 0) (e := 0) he hm [] C.length 0 600 [] (by omega) (by omega) (by simpa using FC.nil)
 refine ⟨cs, ?_, h2⟩
 replace h1 : (ZV 600).L 600 (0, zG C, [], 0, [], 0, 0) = some ([], C.length, cs, 0, C.length) := h1
 simp only [zgm, FSpec.d, zar, zpc, h1, h2.dF]
theorem CG.small {T : Int} {m e : Nat} {C : List (List RT7)} (h : CG T m e C) (hm : m <= 1000) : ∀ x ∈ C, x.length <= 1000 := fun x hx => by
 obtain ⟨k, hk, rfl⟩ := List.getElem_of_mem hx
 exact Nat.le_trans (h.xs k hk).le hm
end Go.Proofs.YthdgnfcbehcplaaDoor
end
section
namespace Go.Proofs.YthdgnfcbehcplaaDoor
theorem zeV : ∀ (D : List (List RT7)) (cs : List AV), cs.map dat0 = zaw D -> zK cs 1 D.length = zG D
 | [], _, _ => rfl
 | x :: D, [], h => by cases h
 | x :: D, c :: cs, h => by
  have h' : dat0 c :: cs.map dat0 = AV.list 29 (x.map zN) none :: zaw D := h
  injection h' with h1 h2
  show [dat0 c] :: zK cs 1 D.length = zzW x :: zG D
  rw [h1, zeV D cs h2]; rfl
theorem FC.sp {D : List (List RT7)} {k : Nat} {cs : List AV} (h : FC D k cs) (i : Nat) (y : List RT7) (q : Nat) : (splice cs i [AV.list 29 (y.map zN) (some q)]).map dat0 = zaw (D.set i y) := by
 show (cs.set i _).map dat0 = _
 rw [List.map_set, h.d0]
 simp only [zaw, List.map_set]
 rfl
theorem FC.csp {D : List (List RT7)} {k : Nat} {cs : List AV} (h : FC D k cs) (i : Nat) (y : List RT7) (q : Nat) : zK ((splice cs i [AV.list 29 (y.map zN) (some q)]).take (D.length * 1)) 1 D.length = zG (D.set i y) := by
 rw [Nat.mul_one, List.take_of_length_le (by rw [Zf, h.1]; exact Nat.le_refl _)]
 have := zeV (D.set i y) _ (h.sp i y q)
 rw [List.length_set] at this
 exact this
def zgs (k t : Int) (b : ByteArray) (to : Int) (e1 last : RT0) : RT7 := (k, t, b, to, if zaz k = true then last else e1)
structure Say (k : Int) (b : ByteArray) (to : Int) (e1 : RT0) : Prop where
 kd : k = 3 \/ k = 4 \/ k = 5 \/ k = 6
 per : Per b
 ev : k = 3 -> EvG e1
 to0 : k ≠ 5 -> to = 0
 to1 : 0 <= to
theorem Say.vg {k : Int} {b : ByteArray} {to : Int} {e1 : RT0} (h : Say k b to e1) {T t : Int} {n i m : Nat} {x : List RT7} (hx : XG T n i m x) (hT : T <= t) (hl : to < n) (hs : k = 5 -> to ≠ i) : VG t n i (zgs k t b to e1 (evV (x.getLast hx.ne))) := by
 have hL := hx.last
 obtain ⟨hk, hp, he, h0, h1⟩ := h
 refine ⟨by unfold Kd6 kdV zgs; dsimp only; omega, Int.le_trans hL.at0 (Int.le_trans hL.atT hT), Int.le_refl _, fun h => by simp only [zgs, kdV] at h; omega, fun _ => hp, h0, fun h => ⟨h1, hl, hs h⟩, ?_⟩
 show EvG (if zaz k = true then _ else _)
 rcases hk with rfl | rfl | rfl | rfl
 ·rw [if_neg (by decide)]; exact he rfl
 ·rw [if_pos (by decide)]; exact hL.ev
 ·rw [if_pos (by decide)]; exact hL.ev
 ·rw [if_pos (by decide)]; exact hL.ev
theorem Say.stp {k : Int} {b : ByteArray} {to : Int} {e1 : RT0} (h : Say k b to e1) {T t : Int} {n i m : Nat} {x : List RT7} (hx : XG T n i m x) (hT : T <= t) (ho : k = 6 -> ZW (kdV (x.getLast hx.ne)) = false) : Stp (x.getLast hx.ne) (zgs k t b to e1 (evV (x.getLast hx.ne))) := by
 have hL := hx.last
 obtain ⟨hk, hp, he, h0, h1⟩ := h
 refine ⟨Int.le_trans hL.atT hT, ?_, fun h => ?_⟩
 ·show zB5 k _ = true
  rcases hk with rfl | rfl | rfl | rfl
  ·rfl
  ·rfl
  ·rfl
  ·show (!(ZW _)) = true
   rw [ho rfl]; rfl
 ·replace h : zaz k = true := h
  show _ = (if zaz k = true then _ else _)
  rw [if_pos h]
theorem zq5 {T t : Int} {m e : Nat} {C : List (List RT7)} (hC : CG T m e C) (he : e <= 500) (hm : m < 100) (hT : T <= t) (ht0 : 0 <= t) (ht : t <= 18014398509481984) {k : Int} {b : ByteArray} {to : Int} {e1 : RT0} (hs : Say k b to e1) (id : Nat) : ∃ d y, zd7 600 (zG C, (id : Int), (k, t, b, to, e1)) = some (d, y) /\ (y = 0 -> ∃ C', d = zG C' /\ CG t (m + 1) e C') := by
 have hle := hC.le
 have hV := zpJ (by omega) he (by omega) hC
 have hP := (ziU hs.per).1
 have hL := zja hT he (by omega) hC
 have h2 : zwZ 600 ((id : Int), zG C, (k, t, b, to, e1), []) = some (.inr ((id : Int), zG C, (k, t, b, to, e1), [])) := by
  show (zas 600).b _ _ ((zas 600).L 599) some = _
  simp only [zas]
  simp only [hV, hP, Bool.not_true]
  by_cases k3 : k = 3
  ·have c1 : (k == 3) = true := by simp [k3]
   have c2 : zc3 600 [zB (zx (k, t, b, to, e1))] = some true := (hs.ev k3).rv
   simp only [c1, c2, Bool.not_true]
  ·have c1 : (k == 3) = false := by simp [k3]
   simp only [c1]
 simp only [zd7, FSpec.d, zdW, h2, zS]
 have n1 : decide ((id : Int) < 0) = false := dF (by omega)
 simp only [n1]
 by_cases c1 : id < C.length
 case neg =>
  have n2 : decide ((id : Int) >= (C.length : Int)) = true := dT (by omega)
  simp only [n2]
  exact ⟨_, _, rfl, fun h => by cases h⟩
 have n2 : decide ((id : Int) >= (C.length : Int)) = false := dF (by omega)
 have n3 : decide (to < 0) = false := by rw [decide_eq_false_iff_not]; have := hs.to1; omega
 simp only [n2, n3]
 by_cases c2 : to < C.length
 case neg =>
  have n4 : decide (to >= (C.length : Int)) = true := dT (by omega)
  simp only [n4]
  exact ⟨_, _, rfl, fun h => by cases h⟩
 have n4 : decide (to >= (C.length : Int)) = false := dF (by omega)
 have n5 : decide (t < 0) = false := dF (by omega)
 have n6 : decide (t > 18014398509481984) = false := dF (by omega)
 have h0 : 0 <= (id : Int) := by omega
 have hx := hC.xs id c1
 have hxl := hx.le
 have hla := zeG C[id] hx.ne (by omega)
 simp only [n4, n5, n6, hL, Bool.not_true, h0, if_true, Int.toNat_natCast, zT C id c1, rd6, hla]
 obtain ⟨L, hLd⟩ : ∃ L, L = C[id].getLast hx.ne := ⟨_, rfl⟩
 rw [<- hLd]
 have hop := zpL 600 L
 have h19 : (zfC 600 ((id : Int), zG C, (k, t, b, to, e1), [], L) = some (.inl ((id : Int), 10, zG C, (k, t, b, to, e1), [], L))) \/ ((k = 5 -> to ≠ (id : Int)) /\ (k = 6 -> ZW (kdV L) = false) /\ zfC 600 ((id : Int), zG C, (k, t, b, to, e1), [], L) = some (.inr ((id : Int), zG C, (k, t, b, to, e1), [], L))) := by
  have hu : ∀ y, (jk 600).b ((id : Int), zG C, (k, t, b, to, e1), [], L) _ ((jk 600).L 599) some = y -> zfC 600 ((id : Int), zG C, (k, t, b, to, e1), [], L) = y := fun y h => h
  rcases hs.kd with rfl | rfl | rfl | rfl
  ·exact .inr ⟨fun h => (by cases h), fun h => (by cases h), hu _ (by kernel_rfl)⟩
  ·exact .inr ⟨fun h => (by cases h), fun h => (by cases h), hu _ (by kernel_rfl)⟩
  ·by_cases c3 : to = (id : Int)
   ·refine .inl (hu _ ?_)
    have c4 : (to == (id : Int)) = true := by simp [c3]
    have c5 : ((5 : Int) == 5) = true := by decide
    simp only [jk]
    simp only [c4, c5]
   ·refine .inr ⟨fun _ => c3, fun h => (by cases h), hu _ ?_⟩
    have c4 : (to == (id : Int)) = false := by simp [c3]
    have c5 : ((5 : Int) == 5) = true := by decide
    have c6 : ((5 : Int) == 6) = false := by decide
    simp only [jk]
    simp only [c4, c5, c6]
  ·have c5 : ((6 : Int) == 5) = false := by decide
   have c6 : ((6 : Int) == 6) = true := by decide
   cases ho : ZW (kdV L) with
   | true =>
    refine .inl (hu _ ?_)
    rw [ho] at hop
    simp only [jk]
    simp only [c5, c6, hop]
   | false =>
    refine .inr ⟨fun h => (by cases h), fun _ => rfl, hu _ ?_⟩
    rw [ho] at hop
    simp only [jk]
    simp only [c5, c6, hop]
 rcases h19 with h19 | ⟨g1, g2, h19⟩
 ·simp only [h19]
  exact ⟨_, _, rfl, fun h => by cases h⟩
 have hv := hs.vg hx hT c2 g1
 have hst := hs.stp hx hT (by rw [<- hLd]; exact g2)
 rw [<- hLd] at hv hst
 have hn := hC.set c1 hT hv (by rw [<- hLd]; exact hst)
 have m1 : (((C[id].map zN).length : Int) == 100) = false := by simp; omega
 have hkp := znN 600 k
 obtain ⟨cs, q1, q2⟩ := zwU (C := C) (by omega) (hC.small (by omega))
 obtain ⟨tk, q3, _, q4⟩ := q2.2 id c1
 rw [q4 (Nat.zero_le _)] at q3
 have hI : (id : Int) < (C.length : Int) := by omega
 have b1 : ((C[id].map zN).length + [zN (zgs k t b to e1 (evV L))].length) * 288 <= zh := by unfold zh; simp; omega
 have b2 : id + 1 <= cs.length := by rw [q2.1]; exact c1
 have b3 : ∀ q, C.length * 1 <= (splice cs id q).length := fun q => by rw [Zf, q2.1]; omega
 have hr : (C[id].map zN) ++ [zN (zgs k t b to e1 (evV L))] = (C[id] ++ [zgs k t b to e1 (evV L)]).map zN := by simp
 have hch := q2.csp id (C[id] ++ [zgs k t b to e1 (evV L)]) 7872
 simp only [h19, h0, if_true, Int.toNat_natCast, zT C id c1, zdc, zhw, m1, hkp, q1]
 unfold zgs at b1 hr hch hn
 rw [Nat.mul_one] at hch
 have b3' : ∀ q, C.length <= (splice cs id q).length := fun q => by have := b3 q; omega
 cases hkk : zaz k with
 | true =>
  simp only [hkk, if_true] at b1 hr hch hn
  simp only [hI, h0, q2.dJ, Nat.zero_add, Nat.mul_one, Nat.add_zero, q3, c1, and_self, if_true, Nat.zero_le, b2]
  rw [if_pos b1, if_pos (b3' _)]
  refine ⟨_, _, rfl, fun _ => ⟨_, ?_, hn⟩⟩
  rw [<- hch, <- hr]
 | false =>
  simp only [hkk, Bool.false_eq_true, if_false] at b1 hr hch hn
  simp only [hI, h0, q2.dJ, Nat.zero_add, Nat.mul_one, Nat.add_zero, q3, c1, and_self, if_true, Nat.zero_le, b2]
  rw [if_pos b1, if_pos (b3' _)]
  refine ⟨_, _, rfl, fun _ => ⟨_, ?_, hn⟩⟩
  rw [<- hch, <- hr]
theorem zt2 {T t : Int} {m e : Nat} {C : List (List RT7)} (hC : CG T m e C) (he : e <= 500) (hm : m < 100) (hT : T <= t) (ht0 : 0 <= t) (ht : t <= 18014398509481984) {b : ByteArray} {x : RT0} (hb : Per b) (hx : EvG x) (id : Nat) : ∃ d y, zyS 600 (zG C, (id : Int), b, x, t) = some (d, y) /\ (y = 0 -> ∃ C', d = zG C' /\ CG t (m + 1) e C') := by
 obtain ⟨d, y, h1, h2⟩ := zq5 hC he hm hT ht0 ht (k := 3) (b := b) (to := 0) (e1 := x) ⟨.inl rfl, hb, fun _ => hx, fun _ => rfl, Int.le_refl _⟩ id
 refine ⟨d, y, ?_, h2⟩
 show (match zd7 600 (zG C, (id : Int), (3, t, b, 0, x)) with | some y1 => some y1 | none => none) = _
 rw [h1]
@[reducible] def zE : RT0 := ((⟨#[]⟩ : ByteArray), (⟨#[]⟩ : ByteArray), (⟨#[]⟩ : ByteArray), (⟨#[]⟩ : ByteArray), 0, 0, 0, 0, 0, ([] : List (List AV)), 0, 0, 0, 0, 0, 0, 0, 0, 0, 0, 0, 0, 0, 0, 0, ())
theorem zsF {T t : Int} {m e : Nat} {C : List (List RT7)} (hC : CG T m e C) (he : e <= 500) (hm : m < 100) (hT : T <= t) (ht0 : 0 <= t) (ht : t <= 18014398509481984) {b : ByteArray} (hb : Per b) (id : Nat) : ∃ d y, zyY 600 (zG C, (id : Int), b, t) = some (d, y) /\ (y = 0 -> ∃ C', d = zG C' /\ CG t (m + 1) e C') := by
 obtain ⟨d, y, h1, h2⟩ := zq5 hC he hm hT ht0 ht (k := 4) (b := b) (to := 0) (e1 := zE) ⟨.inr (.inl rfl), hb, fun h => (by cases h), fun _ => rfl, Int.le_refl _⟩ id
 refine ⟨d, y, ?_, h2⟩
 show (match zd7 600 (zG C, (id : Int), (4, t, b, 0, zE)) with | some y1 => some y1 | none => none) = _
 rw [h1]
theorem zx6 {T t : Int} {m e : Nat} {C : List (List RT7)} (hC : CG T m e C) (he : e <= 500) (hm : m < 100) (hT : T <= t) (ht0 : 0 <= t) (ht : t <= 18014398509481984) {b : ByteArray} (hb : Per b) (id to : Nat) : ∃ d y, zzP 600 (zG C, (id : Int), (to : Int), b, t) = some (d, y) /\ (y = 0 -> ∃ C', d = zG C' /\ CG t (m + 1) e C') := by
 obtain ⟨d, y, h1, h2⟩ := zq5 hC he hm hT ht0 ht (k := 5) (b := b) (to := (to : Int)) (e1 := zE) ⟨.inr (.inr (.inl rfl)), hb, fun h => (by cases h), fun h => absurd rfl h, by omega⟩ id
 refine ⟨d, y, ?_, h2⟩
 show (match zd7 600 (zG C, (id : Int), (5, t, b, (to : Int), zE)) with | some y1 => some y1 | none => none) = _
 rw [h1]
theorem zqa {T t : Int} {m e : Nat} {C : List (List RT7)} (hC : CG T m e C) (he : e <= 500) (hm : m < 100) (hT : T <= t) (ht0 : 0 <= t) (ht : t <= 18014398509481984) {b : ByteArray} (hb : Per b) (id : Nat) : ∃ d y, zyp 600 (zG C, (id : Int), b, t) = some (d, y) /\ (y = 0 -> ∃ C', d = zG C' /\ CG t (m + 1) e C') := by
 obtain ⟨d, y, h1, h2⟩ := zq5 hC he hm hT ht0 ht (k := 6) (b := b) (to := 0) (e1 := zE) ⟨.inr (.inr (.inr rfl)), hb, fun h => (by cases h), fun _ => rfl, Int.le_refl _⟩ id
 refine ⟨d, y, ?_, h2⟩
 show (match zd7 600 (zG C, (id : Int), (6, t, b, 0, zE)) with | some y1 => some y1 | none => none) = _
 rw [h1]
end Go.Proofs.YthdgnfcbehcplaaDoor
end
section
namespace Go.Proofs.YthdgnfcbehcplaaDoor
def ixD (A : List RT0) (nm : RT1) : Nat -> Int -> Prop := fun k y => (y = -1 /\ ∀ j (h : j < A.length), k <= j -> nmE A[j] ≠ nm) \/ ∃ j : Nat, y = (j : Int) /\ ∃ h : j < A.length, k <= j /\ nmE A[j] = nm /\ ∀ i (hi : i < A.length), k <= i -> i < j -> nmE A[i] ≠ nm
theorem zgZ (A : List RT0) (nm : RT1) (hA : A.length <= 500) : ∀ (d k f : Nat), k + d = A.length -> d < f -> ∃ y, (Z6 600).L f (A.map zB, (k : Int), nm) = some y /\ ∃ z, ixD A nm k z /\ ((z = -1 /\ y = .inr ()) \/ (0 <= z /\ y = .inl z)) := by
 intro d
 induction d with
 | zero =>
  intro k f hk hf
  obtain ⟨f, rfl⟩ := pS hf
  refine ⟨_, ?_, -1, .inl ⟨rfl, fun j h h' => by omega⟩, .inl ⟨rfl, rfl⟩⟩
  show (Z6 600).b _ _ ((Z6 600).L f) some = _
  have e2 : decide ((k : Int) < (A.length : Int)) = false := dF (by omega)
  simp only [Z6]
  simp only [List.length_map, e2]
 | succ d ih =>
  intro k f hk hf
  obtain ⟨f, rfl⟩ := pS hf
  have hkl : k < A.length := by omega
  have e2 : decide ((k : Int) < (A.length : Int)) = true := dT (by omega)
  have h0 : 0 <= (k : Int) := by omega
  by_cases hc : nmE A[k] = nm
  ·refine ⟨_, ?_, (k : Int), .inr ⟨k, rfl, hkl, Nat.le_refl _, hc, fun i hi h1 h2 => by omega⟩, .inr ⟨h0, rfl⟩⟩
   show (Z6 600).b _ _ ((Z6 600).L f) some = _
   have ee := (congrArg (eqP (nmE A[k])) hc).symm.trans (Jr (nmE A[k]))
   simp only [eqP] at ee
   simp only [Z6]
   simp only [List.length_map, e2, h0, if_true, Int.toNat_natCast, zcp A k hkl, nm0, ee]
  ·obtain ⟨y, r1, z, r2, r3⟩ := ih (k + 1) f (by omega) (by omega)
   refine ⟨y, ?_, z, ?_, r3⟩
   ·show (Z6 600).b _ _ ((Z6 600).L f) some = _
    generalize (Z6 600).L f = Lf at r1 |-
    have ee := za9 hc
    simp only [eqP] at ee
    simp only [Z6]
    simp only [List.length_map, e2, h0, if_true, Int.toNat_natCast, zcp A k hkl, nm0, ee, zp (show k < 1000000 by omega)]
    exact r1
   ·rcases r2 with ⟨a, b⟩ | ⟨j, a, b, c, g, i⟩
    ·refine .inl ⟨a, fun j h h' => ?_⟩
     by_cases e : k = j
     ·subst e; exact hc
     ·exact b j h (by omega)
    ·refine .inr ⟨j, a, b, by omega, g, fun l hl h1 h2 => ?_⟩
     by_cases e : k = l
     ·subst e; exact hc
     ·exact i l hl (by omega) h2
theorem zyX (A : List RT0) (nm : RT1) (hA : A.length <= 500) : ∃ z, zvL 600 (A.map zB, nm) = some z /\ ixD A nm 0 z := by
 obtain ⟨y, h1, z, h2, h3⟩ := zgZ A nm hA A.length 0 600 (by omega) (by omega)
 replace h1 : (Z6 600).L 600 (A.map zB, 0, nm) = some y := h1
 refine ⟨z, ?_, h2⟩
 simp only [zvL, FSpec.d, zlM, zwr, h1]
 rcases h3 with ⟨rfl, rfl⟩ | ⟨_, rfl⟩ <;> rfl
theorem ixD.rg {A : List RT0} {nm : RT1} {k : Nat} {z : Int} (h : ixD A nm k z) : -1 <= z /\ z < A.length := by
 rcases h with ⟨rfl, _⟩ | ⟨j, rfl, h, _⟩ <;> omega
def ic (L : List Int) : List AV := L.map fun x => AV.v (.int .i64 x)
theorem zeg (L : List Int) : (ic L).length = L.length := by simp [ic]
theorem JQ (L : List Int) (k : Nat) (h : k < L.length) : (ic L)[k]? = some (AV.v (.int .i64 L[k])) := by simp [ic, h]
theorem zF (L : List Int) : (ic L).map dat0 = ic L := by simp only [ic, List.map_map]; rfl
theorem zpk (L : List Int) (k : Nat) (y : Int) : splice (ic L) k [AV.v (.int .i64 y)] = ic (L.set k y) := by
 show (ic L).set k _ = _
 simp [ic, List.map_set]
theorem zAG (L : List Int) (x : Int) : ic L ++ [AV.v (.int .i64 x)] = ic (L ++ [x]) := by simp [ic]
theorem zx9 (L : List Int) (x : Int) (hL : L.length <= 500) : ∀ (d k f : Nat), k + d = L.length -> d < f -> ∃ y, (ZA 600).L f (L.length, x, (k : Int), ic L) = some y /\ ((x ∈ L.drop k /\ y = .inl (true, ic L)) \/ (x ∉ L.drop k /\ y = .inr (ic L))) := by
 intro d
 induction d with
 | zero =>
  intro k f hk hf
  obtain ⟨f, rfl⟩ := pS hf
  refine ⟨_, ?_, .inr ⟨by rw [List.drop_eq_nil_of_le (by omega)]; simp, rfl⟩⟩
  show (ZA 600).b _ _ ((ZA 600).L f) some = _
  have e2 : decide ((k : Int) < ((L.length : Nat) : Int)) = false := dF (by omega)
  simp only [ZA]
  simp only [e2, zF]
 | succ d ih =>
  intro k f hk hf
  obtain ⟨f, rfl⟩ := pS hf
  have hkl : k < L.length := by omega
  have e2 : decide ((k : Int) < ((L.length : Nat) : Int)) = true := dT (by omega)
  have h0 : 0 <= (k : Int) := by omega
  have h1 : (k : Int) < (L.length : Int) := by omega
  have hd := List.drop_eq_getElem_cons hkl
  by_cases hc : L[k] = x
  ·refine ⟨_, ?_, .inl ⟨by rw [hd, hc]; exact List.mem_cons_self, rfl⟩⟩
   show (ZA 600).b _ _ ((ZA 600).L f) some = _
   have e3 : (L[k] == x) = true := by simp [hc]
   simp only [ZA]
   simp only [e2, h0, h1, decide_true, and_self, if_true, Nat.zero_add, Nat.mul_one, Int.toNat_natCast, JQ L k hkl, e3, zF]
  ·obtain ⟨y, r1, r2⟩ := ih (k + 1) f (by omega) (by omega)
   refine ⟨y, ?_, ?_⟩
   ·show (ZA 600).b _ _ ((ZA 600).L f) some = _
    generalize (ZA 600).L f = Lf at r1 |-
    have e3 : (L[k] == x) = false := by simp [hc]
    simp only [ZA]
    simp only [e2, h0, h1, decide_true, and_self, if_true, Nat.zero_add, Nat.mul_one, Int.toNat_natCast, JQ L k hkl, e3, zF, zp (show k < 1000000 by omega)]
    exact r1
   ·rw [hd, List.mem_cons]
    rcases r2 with ⟨a, b⟩ | ⟨a, b⟩
    ·exact .inl ⟨.inr a, b⟩
    ·exact .inr ⟨fun h => h.elim (fun e => hc e.symm) a, b⟩
theorem zC6 (L : List Int) (x : Int) (hL : L.length <= 500) : ∃ b, zgl 600 (L.length, x, ic L) = some (b, ic L) /\ (b = true ↔ x ∈ L) := by
 obtain ⟨y, h1, h2⟩ := zx9 L x hL L.length 0 600 (by omega) (by omega)
 replace h1 : (ZA 600).L 600 (L.length, x, 0, ic L) = some y := h1
 rw [List.drop_zero] at h2
 simp only [zgl, FSpec.d, zev, zn4, zF, h1]
 rcases h2 with ⟨a, rfl⟩ | ⟨a, rfl⟩
 ·exact ⟨true, by simp only [zF], by simp [a]⟩
 ·exact ⟨false, by simp only [zF], by simp [a]⟩
def Rg (n : Nat) (L : List Int) : Prop := ∀ x ∈ L, -1 <= x /\ x < n
theorem Rg.snoc {n : Nat} {L : List Int} {x : Int} (h : Rg n L) (hx : -1 <= x /\ x < n) : Rg n (L ++ [x]) := fun y hy => by
 rcases List.mem_append.1 hy with h1 | h1
 ·exact h y h1
 ·rw [List.mem_singleton.1 h1]; exact hx
theorem Rg.set {n : Nat} {L : List Int} {x : Int} (h : Rg n L) (k : Nat) (hx : -1 <= x /\ x < n) : Rg n (L.set k x) := fun y hy => by
 rcases List.mem_or_eq_of_mem_set hy with h1 | h1
 ·exact h y h1
 ·rw [h1]; exact hx
theorem znA {T : Int} {m e : Nat} {C : List (List RT7)} (hC : CG T m e C) (he : e <= 500) (hm : m <= 1000) (A : List RT0) (hA : A.length <= 500) : ∀ (d k f : Nat) (L : List Int), k + d = C.length -> d < f -> L.length = k -> Rg A.length L -> ∃ L' : List Int, (Zp 600).L f (k, A.map zB, (k : Int), zG C, ic L) = some (C.length, A.map zB, zG C, ic L') /\ L'.length = C.length /\ Rg A.length L' := by
 intro d
 induction d with
 | zero =>
  intro k f L hk hf hl hr
  obtain ⟨f, rfl⟩ := pS hf
  obtain rfl : k = C.length := by omega
  refine ⟨L, ?_, hl, hr⟩
  show (Zp 600).b _ _ ((Zp 600).L f) some = _
  have e2 : decide ((C.length : Int) < (C.length : Int)) = false := dF (by omega)
  simp only [Zp]
  simp only [zS, e2, zF]
 | succ d ih =>
  intro k f L hk hf hl hr
  obtain ⟨f, rfl⟩ := pS hf
  have hkl : k < C.length := by omega
  have hle := hC.le
  have e2 : decide ((k : Int) < (C.length : Int)) = true := dT (by omega)
  have h0 : 0 <= (k : Int) := by omega
  have hx := hC.xs k hkl
  have hla := zeG C[k] hx.ne (by have := hx.le; omega)
  obtain ⟨z, i1, i2⟩ := zyX A (nmE (evV (C[k].getLast hx.ne))) hA
  replace i1 : zvL 600 (A.map zB, zpD (C[k].getLast hx.ne)) = some z := i1
  obtain ⟨b, j1, j2⟩ := zC6 L z (by omega)
  rw [hl] at j1
  have hst : ∀ x : Int, -1 <= x /\ x < A.length -> ∃ L' : List Int, (Zp 600).L f (k + 1, A.map zB, ((k + 1 : Nat) : Int), zG C, ic (L ++ [x])) = some (C.length, A.map zB, zG C, ic L') /\ L'.length = C.length /\ Rg A.length L' := fun x hx => ih (k + 1) f (L ++ [x]) (by omega) (by omega) (by simp [hl]) (hr.snoc hx)
  have hlen : (ic L).length = k := by rw [zeg, hl]
  have b1 : (k * 1 <= k /\ (k + 1) * 8 <= zh) = True := by unfold zh; simp; omega
  have tk : ∀ x : Int, (ic L).take (k * 1) ++ [[AV.v (.int .i64 x)]].flatten = ic (L ++ [x]) := fun x => by
   rw [Nat.mul_one, <- hlen, List.take_length]
   exact zAG L x
  cases b with
  | true =>
   obtain ⟨L', r1, r2⟩ := hst (-1) (by omega)
   refine ⟨L', ?_, r2⟩
   show (Zp 600).b _ _ ((Zp 600).L f) some = _
   generalize (Zp 600).L f = Lf at r1 |-
   simp only [Zp]
   simp only [zS, e2, h0, if_true, Int.toNat_natCast, zT C k hkl, rd6, hla, i1, zF, j1, hlen, List.length_cons, List.length_nil, Nat.zero_add, b1, tk, zp (show k < 1000000 by omega)]
   exact r1
  | false =>
   obtain ⟨L', r1, r2⟩ := hst z i2.rg
   refine ⟨L', ?_, r2⟩
   show (Zp 600).b _ _ ((Zp 600).L f) some = _
   generalize (Zp 600).L f = Lf at r1 |-
   simp only [Zp]
   simp only [zS, e2, h0, if_true, Int.toNat_natCast, zT C k hkl, rd6, hla, i1, zF, j1, hlen, List.length_cons, List.length_nil, Nat.zero_add, b1, tk, zp (show k < 1000000 by omega)]
   exact r1
theorem zkA {T : Int} {m e : Nat} {C : List (List RT7)} (hC : CG T m e C) (he : e <= 500) (hm : m <= 1000) (A : List RT0) (hA : A.length <= 500) (hpk : ∀ a ∈ A, zaZ a) (i : Nat) (hi : i < C.length) : ∀ (d k f : Nat) (L : List Int), k + d = A.length -> d < f -> L.length = C.length -> Rg A.length L -> ∃ L' : List Int, (zP 600).L f (A.map zB, C.length, (i : Int), (k : Int), zG C, ic L) = some (A.map zB, C.length, (i : Int), zG C, ic L') /\ L'.length = C.length /\ Rg A.length L' := by
 intro d
 induction d with
 | zero =>
  intro k f L hk hf hl hr
  obtain ⟨f, rfl⟩ := pS hf
  refine ⟨L, ?_, hl, hr⟩
  show (zP 600).b _ _ ((zP 600).L f) some = _
  have e2 : decide ((k : Int) < (A.length : Int)) = false := dF (by omega)
  simp only [zP]
  simp only [List.length_map, e2, zF]
 | succ d ih =>
  intro k f L hk hf hl hr
  obtain ⟨f, rfl⟩ := pS hf
  have hkl : k < A.length := by omega
  have hle := hC.le
  have e2 : decide ((k : Int) < (A.length : Int)) = true := dT (by omega)
  have h0 : 0 <= (k : Int) := by omega
  have hi0 : 0 <= (i : Int) := by omega
  have hi1 : (i : Int) < (C.length : Int) := by omega
  have hiL : i < L.length := by omega
  have hx := hC.xs i hi
  have hla := zeG C[i] hx.ne (by have := hx.le; omega)
  by_cases hneg : L[i] < 0
  case neg =>
   refine ⟨L, ?_, hl, hr⟩
   show (zP 600).b _ _ ((zP 600).L f) some = _
   have e3 : decide (L[i] < 0) = false := dF (by omega)
   simp only [zP]
   simp only [List.length_map, e2, hi0, hi1, and_self, if_true, Nat.zero_add, Nat.mul_one, Int.toNat_natCast, JQ L i hiL, e3, zF]
  have e3 : decide (L[i] < 0) = true := dT (by omega)
  obtain ⟨b, j1, j2⟩ := zC6 L (k : Int) (by omega)
  rw [hl] at j1
  cases b with
  | true =>
   obtain ⟨L', r1, r2⟩ := ih (k + 1) f L (by omega) (by omega) hl hr
   refine ⟨L', ?_, r2⟩
   show (zP 600).b _ _ ((zP 600).L f) some = _
   generalize (zP 600).L f = Lf at r1 |-
   simp only [zP]
   simp only [List.length_map, e2, hi0, hi1, and_self, if_true, Nat.zero_add, Nat.mul_one, Int.toNat_natCast, JQ L i hiL, e3, zF, j1, Bool.not_true, zp (show k < 1000000 by omega)]
   exact r1
  | false =>
   obtain ⟨P, hP1, hP⟩ := hx.last.ev.pk
   obtain ⟨Q, hQ1, hQ⟩ := hpk A[k] (List.getElem_mem _)
   obtain ⟨b2, q1, q2⟩ := zEr P Q (by omega) (by omega)
   have q3 : zvF 600 ((C[i].getLast hx.ne).2.2.2.2.2.2.2.2.2.2.2.2.2.1, Q.map zq) = some b2 := by
    rw [<- hP] at q1; exact q1
   cases b2 with
   | false =>
    obtain ⟨L', r1, r2⟩ := ih (k + 1) f L (by omega) (by omega) hl hr
    refine ⟨L', ?_, r2⟩
    show (zP 600).b _ _ ((zP 600).L f) some = _
    generalize (zP 600).L f = Lf at r1 |-
    simp only [zP]
    simp only [List.length_map, e2, h0, hi0, hi1, and_self, if_true, Nat.zero_add, Nat.mul_one, Int.toNat_natCast, JQ L i hiL, e3, zF, j1, Bool.not_false, zT C i hi, rd6, hla, zcp A k hkl, pk0, zA3, hQ, q3, zp (show k < 1000000 by omega)]
    exact r1
   | true =>
    obtain ⟨L', r1, r2⟩ := ih (k + 1) f (L.set i (k : Int)) (by omega) (by omega) (by simpa using hl) (hr.set i (by omega))
    refine ⟨L', ?_, r2⟩
    show (zP 600).b _ _ ((zP 600).L f) some = _
    generalize (zP 600).L f = Lf at r1 |-
    have b1 : i + 1 <= (ic L).length := by rw [zeg]; omega
    simp only [zP]
    simp only [List.length_map, e2, h0, hi0, hi1, and_self, if_true, Nat.zero_add, Nat.mul_one, Int.toNat_natCast, JQ L i hiL, e3, zF, j1, Bool.not_false, zT C i hi, rd6, hla, zcp A k hkl, pk0, zA3, hQ, q3, b1, zpk, zp (show k < 1000000 by omega)]
    exact r1
theorem zlu {T : Int} {m e : Nat} {C : List (List RT7)} (hC : CG T m e C) (he : e <= 500) (hm : m <= 1000) (A : List RT0) (hA : A.length <= 500) (hpk : ∀ a ∈ A, zaZ a) : ∀ (d k f : Nat) (L : List Int), k + d = C.length -> d < f -> L.length = C.length -> Rg A.length L -> ∃ L' : List Int, (Zt 600).L f (A.map zB, C.length, (k : Int), zG C, ic L) = some (C.length, ic L') /\ L'.length = C.length /\ Rg A.length L' := by
 intro d
 induction d with
 | zero =>
  intro k f L hk hf hl hr
  obtain ⟨f, rfl⟩ := pS hf
  refine ⟨L, ?_, hl, hr⟩
  show (Zt 600).b _ _ ((Zt 600).L f) some = _
  have e2 : decide ((k : Int) < (C.length : Int)) = false := dF (by omega)
  simp only [Zt]
  simp only [zS, e2, zF]
 | succ d ih =>
  intro k f L hk hf hl hr
  obtain ⟨f, rfl⟩ := pS hf
  have hkl : k < C.length := by omega
  have hle := hC.le
  have e2 : decide ((k : Int) < (C.length : Int)) = true := dT (by omega)
  obtain ⟨L1, a1, a2, a3⟩ := zkA hC he hm A hA hpk k hkl A.length 0 600 L (by omega) (by omega) hl hr
  replace a1 : (zP 600).L 600 (A.map zB, C.length, (k : Int), 0, zG C, ic L) = _ := a1
  obtain ⟨L', r1, r2⟩ := ih (k + 1) f L1 (by omega) (by omega) a2 a3
  refine ⟨L', ?_, r2⟩
  show (Zt 600).b _ _ ((Zt 600).L f) some = _
  generalize (Zt 600).L f = Lf at r1 |-
  simp only [Zt]
  simp only [zS, e2, zF, zi7, a1, zp (show k < 1000000 by omega)]
  exact r1
theorem zvz {T : Int} {m e : Nat} {C : List (List RT7)} (hC : CG T m e C) (he : e <= 500) (hm : m <= 1000) (A : List RT0) (hA : A.length <= 500) (hpk : ∀ a ∈ A, zaZ a) : ∃ L : List Int, znV 600 (zG C, A.map zB) = some (C.length, ic L) /\ L.length = C.length /\ Rg A.length L := by
 have hle := hC.le
 obtain ⟨L1, a1, a2, a3⟩ := znA hC he hm A hA C.length 0 600 [] (by omega) (by omega) rfl (fun x h => by cases h)
 replace a1 : (Zp 600).L 600 (0, A.map zB, 0, zG C, []) = _ := a1
 obtain ⟨L2, b1, b2, b3⟩ := zlu hC he hm A hA hpk C.length 0 600 L1 (by omega) (by omega) a2 a3
 replace b1 : (Zt 600).L 600 (A.map zB, C.length, 0, zG C, ic L1) = _ := b1
 refine ⟨L2, ?_, b2, b3⟩
 simp only [znV, FSpec.d, zam, zni, ziK, a1, zF, b1]
end Go.Proofs.YthdgnfcbehcplaaDoor
end
section
namespace Go.Proofs.YthdgnfcbehcplaaDoor
theorem CG.add {T : Int} {m e : Nat} {C : List (List RT7)} (h : CG T m e C) (hm : 1 <= m) {v : RT7} (hv : VG T (C.length + 1) C.length v) (h1 : kdV v = 1) : CG T m (e + 1) (C ++ [[v]]) := by
 refine ⟨fun k hk => ?_, by have := h.le; simp; omega⟩
 simp at hk
 rw [List.length_append, List.length_singleton]
 by_cases hl : k < C.length
 ·rw [List.getElem_append_left hl]
  exact (h.xs k hl).mono (Int.le_refl _) (by omega) (Nat.le_refl _)
 ·obtain rfl : k = C.length := by omega
  rw [List.getElem_append_right (by omega)]
  simpa using XG.one hm hv h1
def zfW (t : Int) (e : RT0) : RT7 := (1, t, nob, 0, e)
def zqE (t : Int) (e : RT0) : RT7 := (2, t, nob, 0, e)
theorem zl3 {T t : Int} {n i : Nat} {e : RT0} (h0 : 0 <= t) (he : EvG e) : VG t n i (zfW t e) :=
 ⟨.inl rfl, h0, Int.le_refl _, fun _ => rfl, fun h => absurd (.inl rfl) h, fun _ => rfl, fun h => (by cases h), he⟩
theorem zA6 {T t : Int} {n i : Nat} {e : RT0} (h0 : 0 <= t) (he : EvG e) : VG t n i (zqE t e) :=
 ⟨.inr (.inl rfl), h0, Int.le_refl _, fun _ => rfl, fun h => absurd (.inr rfl) h, fun _ => rfl, fun h => (by cases h), he⟩
theorem zBn {t : Int} {u : RT7} {e : RT0} (ht : atV u <= t) (ho : ZW (kdV u) = true) : Stp u (zfW t e) := ⟨ht, ho, fun h => by cases h⟩
theorem zz4 {t : Int} {u : RT7} (ht : atV u <= t) (ho : ZW (kdV u) = true) (h2 : kdV u ≠ 2) : Stp u (zqE t (evV u)) := ⟨ht, by
 show (kdV u == 1 || kdV u == 6) = true
 unfold ZW at ho
 have : (kdV u == 2) = false := by simpa using h2
 rw [this, Bool.false_or] at ho
 exact ho, fun _ => rfl⟩
open Classical in
noncomputable def zcm (A : List RT0) (t : Int) (u : RT7) (k : Int) : Option RT7 :=
 if ZW (kdV u) = true then
  if h : 0 <= k /\ k < A.length then
   if za7 (kdV u) = true /\ evV u = A[k.toNat] then none else some (zfW t A[k.toNat])
  else if kdV u = 2 then none else some (zqE t (evV u))
 else none
theorem zvT {A : List RT0} (hA : ∀ a ∈ A, EvG a) {T t : Int} {n i m : Nat} {x : List RT7} (hx : XG T n i m x) (hT : T <= t) {k : Int} {v : RT7} (h : zcm A t (x.getLast hx.ne) k = some v) : VG t n i v /\ Stp (x.getLast hx.ne) v := by
 have hL := hx.last
 have h0 : 0 <= t := Int.le_trans hL.at0 (Int.le_trans hL.atT hT)
 have h1 : atV (x.getLast hx.ne) <= t := Int.le_trans hL.atT hT
 unfold zcm at h
 split at h
 ·rename_i ho
  split at h
  ·split at h
   ·cases h
   ·obtain rfl := Option.some.inj h
    exact ⟨zl3 (T := T) h0 (hA _ (List.getElem_mem _)), zBn h1 ho⟩
  ·split at h
   ·cases h
   ·rename_i h2
    obtain rfl := Option.some.inj h
    exact ⟨zA6 (T := T) h0 hL.ev, zz4 h1 ho h2⟩
 ·cases h
theorem zyM (A : List RT0) (hA : ∀ a ∈ A, EvG a) (t : Int) (u : RT7) (hu : EvG (evV u)) (k i : Int) (hk : -1 <= k /\ k < A.length) (ch : List (List AV)) (n N : Nat) (X Y : List (List AV)) (cs ci : List AV) (hcs : cs.map datF = cs) (hci : ci.map dat0 = ci) (j M : Nat) :
  ∃ s v, zc1 600 (ch, A.map zB, t, n, i, (kdV u == 2), k, decide (k >= 0), X, Y, N, u, zqE t (evV u), cs, ci, j, M) = some (ch, A.map zB, t, n, i, s, X, Y, N, u, v, cs, ci, j, M) /\ (ZW (kdV u) = true -> zcm A t u k = if s = true then none else some v) := by
 have hu' : ∀ y, (jB 600).b (ch, A.map zB, t, n, i, (kdV u == 2), k, decide (k >= 0), X, Y, N, u, zqE t (evV u), cs, ci, j, M) _ ((jB 600).L 599) some = y -> zc1 600 (ch, A.map zB, t, n, i, (kdV u == 2), k, decide (k >= 0), X, Y, N, u, zqE t (evV u), cs, ci, j, M) = y := fun y h => h
 by_cases hk0 : 0 <= k
 ·obtain ⟨j', rfl⟩ : ∃ j' : Nat, k = (j' : Int) := ⟨k.toNat, by omega⟩
  have hj : j' < A.length := by omega
  have e1 : decide ((j' : Int) >= 0) = true := dT (by omega)
  have hs := zys 600 u
  have hnv : ∀ s v, (s = true ↔ (za7 (kdV u) = true /\ evV u = A[j'])) -> v = zfW t A[j'] -> ZW (kdV u) = true -> zcm A t u (j' : Int) = if s = true then none else some v := fun s v h1 h2 ho => by
   unfold zcm
   rw [if_pos ho, dif_pos ⟨hk0, by omega⟩]
   simp only [Int.toNat_natCast, h2]
   by_cases c : s = true
   ·rw [if_pos c, if_pos (h1.1 c)]
   ·rw [if_neg c, if_neg (fun h => c (h1.2 h))]
  cases hsh : za7 (kdV u) with
  | false =>
   rw [hsh] at hs
   refine ⟨false, zfW t A[j'], hu' _ ?_, hnv _ _ (by simp [hsh]) rfl⟩
   simp only [jB]
   simp only [e1, hk0, if_true, Int.toNat_natCast, zcp A j' hj, ZE, hs, hcs, hci]
   rfl
  | true =>
   rw [hsh] at hs
   obtain ⟨b, q1, q2⟩ := zh3 (evV u) A[j'] hu.pk (hA _ (List.getElem_mem _)).pk
   replace q1 : zdU 600 (zx u, A[j']) = some b := q1
   refine ⟨b, zfW t A[j'], hu' _ ?_, hnv _ _ (by rw [q2]; simp [hsh]) rfl⟩
   simp only [jB]
   simp only [e1, hk0, if_true, Int.toNat_natCast, zcp A j' hj, ZE, hs, hcs, hci, q1]
   rfl
 ·have e1 : decide (k >= 0) = false := dF (by omega)
  refine ⟨(kdV u == 2), zqE t (evV u), hu' _ ?_, ?_⟩
  ·simp only [jB]
   simp only [e1, hcs, hci]
  ·intro ho
   unfold zcm
   rw [if_pos ho, dif_neg (fun h => hk0 h.1)]
   by_cases c : kdV u = 2
   ·rw [if_pos c, if_pos (by simpa using c)]
   ·rw [if_neg c, if_neg (by simpa using c)]
theorem zk8 {T t : Int} {m e : Nat} {C : List (List RT7)} (hC : CG T m e C) (he : e <= 500) (hm : m < 100) (hT : T <= t) (A : List RT0) (hA : ∀ a ∈ A, EvG a) (L : List Int) (hL : L.length = C.length) (hr : Rg A.length L) (X : List (List AV)) : ∀ (d k f : Nat) (ch : List (List AV)) (D : List (List RT7)) (cs : List AV) (j : Nat), k + d = C.length -> d < f -> j <= k -> ch.length <= k -> D.length = C.length -> (∀ i (h : i < D.length) (h' : i < C.length), k <= i -> D[i] = C[i]) -> FC D j cs -> CG t (m + 1) e D ->
  ∃ (ch' : List (List AV)) (D' : List (List RT7)) (cs' : List AV) (j' : Nat), (Zu 600).L f (ch, A.map zB, t, C.length, (k : Int), zG C, X, C.length, cs, ic L, j, C.length) = some (.inr (ch', A.map zB, t, C.length, X, C.length, cs', ic L, j', C.length)) /\ ch'.length <= C.length /\ D'.length = C.length /\ FC D' j' cs' /\ CG t (m + 1) e D' := by
 intro d
 induction d with
 | zero =>
  intro k f ch D cs j hk hf hj hch hD hDC hF hG
  obtain ⟨f, rfl⟩ := pS hf
  refine ⟨ch, D, cs, j, ?_, by omega, hD, hF, hG⟩
  show (Zu 600).b _ _ ((Zu 600).L f) some = _
  have e2 : decide ((k : Int) < ((C.length : Nat) : Int)) = false := dF (by omega)
  simp only [Zu]
  simp only [e2, zF, hF.dF]
 | succ d ih =>
  intro k f ch D cs j hk hf hj hch hD hDC hF hG
  obtain ⟨f, rfl⟩ := pS hf
  have hkl : k < C.length := by omega
  have hkd : k < D.length := by omega
  have hle := hC.le
  have e2 : decide ((k : Int) < ((C.length : Nat) : Int)) = true := dT (by omega)
  have h0 : 0 <= (k : Int) := by omega
  have hk1 : (k : Int) < (C.length : Int) := by omega
  have hkL : k < L.length := by omega
  have hx := hC.xs k hkl
  have hxl := hx.le
  have hla := zeG C[k] hx.ne (by omega)
  obtain ⟨u, hu⟩ : ∃ u, u = C[k].getLast hx.ne := ⟨_, rfl⟩
  rw [<- hu] at hla
  have hLast := hx.last
  rw [<- hu] at hLast
  have hop := zpL 600 u
  obtain ⟨s, v, a1, a2⟩ := zyM A hA t u hLast.ev L[k] (k : Int) (hr _ (List.getElem_mem _)) ch C.length C.length (zG C) X cs (ic L) hF.dF (zF L) j C.length
  have n1 := zp (show k < 1000000 by omega)
  by_cases hadd : ZW (kdV u) = true /\ s = false
  ·obtain ⟨ho, rfl⟩ := hadd
   rw [ho] at hop
   have hnv := a2 ho
   simp only [Bool.false_eq_true, if_false] at hnv
   rw [hu] at hnv
   obtain ⟨g1, g2⟩ := zvT hA hx hT hnv
   have hDk : D[k] = C[k] := hDC k hkd hkl (Nat.le_refl _)
   have hG' : CG t (m + 1) e (D.set k (D[k] ++ [v])) := by
    refine ⟨fun i hi => ?_, by simpa using hG.le⟩
    simp at hi
    rw [List.length_set, List.getElem_set]
    split
    ·rename_i e'; subst e'
     rw [hDk, hD]
     exact hx.snoc hT g1 g2
    ·exact hG.xs i hi
   obtain ⟨tk, q3, _, q4⟩ := hF.2 k hkd
   rw [q4 hj, hDk] at q3
   have hF' := (hF.to hj).set hkd (D[k] ++ [v]) (q := 6592) (by unfold TOB; omega)
   obtain ⟨ch', D', cs', j', r1, r2⟩ := ih (k + 1) f (ch ++ [[AV.v (.int .i64 (k : Int))]]) _ _ (k + 1) (by omega) (by omega) (by omega) (by simp; omega) (by simpa using hD) (fun i h h' hi => by
    rw [List.getElem_set_ne (by omega)]
    exact hDC i (by simpa using h) h' (by omega)) hF' hG'
   refine ⟨ch', D', cs', j', ?_, r2⟩
   show (Zu 600).b _ _ ((Zu 600).L f) some = _
   generalize (Zu 600).L f = Lf at r1 |-
   have a1' : zc1 600 (ch, A.map zB, t, C.length, (k : Int), (u.1 == 2), L[k], decide (L[k] >= 0), zG C, X, C.length, u, (2, t, (⟨#[]⟩ : ByteArray), 0, u.2.2.2.2), cs, ic L, j, C.length) = _ := a1
   have hr' : (C[k].map zN) ++ [zN v] = (D[k] ++ [v]).map zN := by rw [hDk]; simp
   have b1 : ((C[k].map zN).length + [zN v].length) * 288 <= zh := by unfold zh; simp; omega
   have b2 : k + 1 <= cs.length := by rw [hF.1]; omega
   have b3 : (ch.length + [[AV.v (.int .i64 (k : Int))]].length) * 8 <= zh := by unfold zh; simp; omega
   have sp : (splice cs k [AV.list 29 ((D[k] ++ [v]).map zN) (some 6592)])[k]? = some (AV.list 29 ((D[k] ++ [v]).map zN) (some 6592)) := by
    show (cs.set k _)[k]? = _
    rw [List.getElem?_set_self (by omega)]
   have l1 : Z1 29 (AV.list 29 ((D[k] ++ [v]).map zN) (some 6592)) = some ((D[k] ++ [v]).map zN) := by simp [Z1]
   have c1 : decide ((((D[k] ++ [v]).map zN).length : Int) > 100) = false := by rw [decide_eq_false_iff_not, hDk]; simp; omega
   simp only [Zu]
   simp only [e2, h0, hk1, decide_true, and_self, if_true, Int.toNat_natCast, zT C k hkl, rd6, hla, Nat.zero_add, Nat.mul_one, Nat.add_zero, JQ L k hkL, hF.dF, zF, a1', hop, Bool.not_false, q3, hj, hkl, hr', b2, b3, sp, l1, c1, n1]
   rw [if_pos b1]
   exact r1
  ·obtain ⟨ch', D', cs', j', r1, r2⟩ := ih (k + 1) f ch D cs j (by omega) (by omega) (by omega) (by omega) hD (fun i h h' hi => hDC i h h' (by omega)) hF hG
   refine ⟨ch', D', cs', j', ?_, r2⟩
   show (Zu 600).b _ _ ((Zu 600).L f) some = _
   generalize (Zu 600).L f = Lf at r1 |-
   have a1' : zc1 600 (ch, A.map zB, t, C.length, (k : Int), (u.1 == 2), L[k], decide (L[k] >= 0), zG C, X, C.length, u, (2, t, (⟨#[]⟩ : ByteArray), 0, u.2.2.2.2), cs, ic L, j, C.length) = _ := a1
   simp only [Zu]
   simp only [e2, h0, hk1, decide_true, and_self, if_true, Int.toNat_natCast, zT C k hkl, rd6, hla, Nat.zero_add, Nat.mul_one, Nat.add_zero, JQ L k hkL, hF.dF, zF, a1', hop, n1]
   cases ho : ZW (kdV u) with
   | false => exact r1
   | true =>
    cases s with
    | true => exact r1
    | false => exact absurd ⟨ho, rfl⟩ hadd
end Go.Proofs.YthdgnfcbehcplaaDoor
end
section
namespace Go.Proofs.YthdgnfcbehcplaaDoor
theorem zjI (D : List (List RT7)) (v : RT7) : ((zaw D).take (D.length * 1) ++ [AV.list 29 [zN v] none]).map dat0 = zaw (D ++ [[v]]) := by
 rw [Nat.mul_one, List.take_of_length_le (by rw [zaU]; exact Nat.le_refl _), List.map_append, jV, <- zvi]
 rfl
theorem zle {t : Int} (h0 : 0 <= t) (A : List RT0) (hA : ∀ a ∈ A, EvG a) (hAl : A.length <= 100) (L : List Int) (hL : L.length <= 500) (X : List (List AV)) {m : Nat} (hm : 1 <= m) : ∀ (d k f e : Nat) (ch : List (List AV)) (D : List (List RT7)), k + d = A.length -> d < f -> e + d <= 500 -> ch.length <= e -> CG t m e D ->
  ∃ (ch' : List (List AV)) (D' : List (List RT7)), (Zv 600).L f (ch, A.map zB, t, L.length, (k : Int), X, D.length, ic L, zaw D) = some (ch', X, D'.length, zaw D') /\ CG t m (e + d) D' := by
 intro d
 induction d with
 | zero =>
  intro k f e ch D hk hf he hch hG
  obtain ⟨f, rfl⟩ := pS hf
  refine ⟨ch, D, ?_, hG⟩
  show (Zv 600).b _ _ ((Zv 600).L f) some = _
  have e2 : decide ((k : Int) < (A.length : Int)) = false := dF (by omega)
  simp only [Zv]
  simp only [List.length_map, e2, jV]
 | succ d ih =>
  intro k f e ch D hk hf he hch hG
  obtain ⟨f, rfl⟩ := pS hf
  have hkl : k < A.length := by omega
  have hDl := hG.le
  have e2 : decide ((k : Int) < (A.length : Int)) = true := dT (by omega)
  have h0 : 0 <= (k : Int) := by omega
  have n1 := zp (show k < 1000000 by omega)
  obtain ⟨b, j1, j2⟩ := zC6 L (k : Int) hL
  cases b with
  | true =>
   obtain ⟨ch', D', r1, r2⟩ := ih (k + 1) f e ch D (by omega) (by omega) (by omega) hch hG
   refine ⟨ch', D', ?_, r2.mono (Int.le_refl _) (Nat.le_refl _) (by omega)⟩
   show (Zv 600).b _ _ ((Zv 600).L f) some = _
   generalize (Zv 600).L f = Lf at r1 |-
   simp only [Zv]
   simp only [List.length_map, e2, jV, zF, j1, Bool.not_true, n1]
   exact r1
  | false =>
   have hv : VG t (D.length + 1) D.length (zfW t A[k]) := zl3 (T := t) (by assumption) (hA _ (List.getElem_mem _))
   obtain ⟨ch', D', r1, r2⟩ := ih (k + 1) f (e + 1) (ch ++ [[AV.v (.int .i64 ((D.length : Nat) : Int))]]) (D ++ [[zfW t A[k]]]) (by omega) (by omega) (by omega) (by simp; omega) (hG.add hm hv rfl)
   refine ⟨ch', D', ?_, r2.mono (Int.le_refl _) (Nat.le_refl _) (by omega)⟩
   have hl1 : (D ++ [[zfW t A[k]]]).length = D.length + 1 := by simp
   rw [hl1, <- zjI] at r1
   show (Zv 600).b _ _ ((Zv 600).L f) some = _
   generalize (Zv 600).L f = Lf at r1 |-
   have b1 : (ch.length + 1) * 8 <= zh := by unfold zh; omega
   have b2 : (D.length * 1 <= (zaw D).length /\ (D.length + 1) * 24 <= zh) := by rw [zaU]; unfold zh; omega
   simp only [Zv]
   simp only [List.length_map, e2, jV, zF, j1, Bool.not_false, n1, h0, if_true, Int.toNat_natCast, zcp A k hkl, ZE, List.length_cons, List.length_nil, Nat.zero_add]
   rw [if_pos b1]
   exact (if_pos b2).trans r1
theorem znJ {T t : Int} {m e : Nat} {C : List (List RT7)} (hC : CG T m e C) {A : List RT0} {M : Nat} (hM : M <= 5) (hA : Evs 0 M A) (he : e + M <= 500) (hm : m < 100) (hT : T <= t) (ht0 : 0 <= t) (ht : t <= 18014398509481984) : ∃ C' l, zvG 600 (zG C, A.map zB, t) = some (zG C', l, 0) /\ CG t (m + 1) (e + M) C' := by
 have hle := hC.le
 have hAl := zdN hA
 have hg : ∀ a ∈ A, EvG a := fun a ha => (hA.evn hM a ha).g
 have hV := zpJ (by omega) (by omega) (by omega) hC
 have hE := zbV hM hA
 have hL := zja hT (by omega) (by omega) hC
 obtain ⟨cs, q1, q2⟩ := zwU (C := C) (by omega) (hC.small (by omega))
 obtain ⟨L, f1, f2, f3⟩ := zvz hC (by omega) (by omega) A (by omega) (fun a ha => (hg a ha).pk)
 obtain ⟨ch, D, cs', j, p1, p2, p3, p4, p5⟩ := zk8 hC (by omega) hm hT A hg L f2 f3 [] C.length 0 600 [] C cs 0 (by omega) (by omega) (by omega) (by simp) rfl (fun i h h' _ => rfl) q2 (hC.mono hT (by omega) (Nat.le_refl _))
 obtain ⟨ch2, D2, s1, s2⟩ := zle ht0 A hg (by omega) L (by omega) [] (m := m + 1) (by omega) A.length 0 600 (e + (M - A.length)) ch D (by omega) (by omega) (by omega) (by omega) (p5.mono (Int.le_refl _) (Nat.le_refl _) (by omega))
 replace p1 : (Zu 600).L 600 ([], A.map zB, t, C.length, 0, zG C, [], C.length, cs, ic L, 0, C.length) = _ := p1
 replace s1 : (Zv 600).L 600 (ch, A.map zB, t, L.length, 0, [], D.length, ic L, zaw D) = _ := s1
 rw [f2, p3] at s1
 have s3 : CG t (m + 1) (e + M) D2 := s2.mono (Int.le_refl _) (Nat.le_refl _) (by omega)
 have s4 := s3.le
 have n5 : decide (t < 0) = false := dF (by omega)
 have n6 : decide (t > 18014398509481984) = false := dF (by omega)
 have n7 : decide (((D2.length : Nat) : Int) > 500) = false := dF (by omega)
 have n8 : D2.length * 1 <= (zaw D2).length := by rw [zaU]; omega
 refine ⟨D2, ch2, ?_, s3⟩
 simp only [zvG, FSpec.d, zdP, hV, hE, hL, Bool.not_true, n5, n6, q1, q2.dJ, q2.dF, f1, zF, znW, p1, zpm, p4.d0, s1, n7]
 rw [if_pos n8, zeE]
theorem zfE {xs : List Int} {p : Int} (D : Sc xs p) : ∃ b p', zhu 600 ([[AV.v (.string (⟨#[97, 110, 110]⟩ : ByteArray))], [AV.v (.string (⟨#[98, 111, 98]⟩ : ByteArray))]], zA xs, p) = some (b, zA xs, p') /\ Per b /\ Sc xs p' := by
 obtain ⟨v, p1, h1, m1, D1⟩ := zaP 600 (n := 2) (by omega) D
 replace h1 : zdw 600 ((([[AV.v (.string (⟨#[97, 110, 110]⟩ : ByteArray))], [AV.v (.string (⟨#[98, 111, 98]⟩ : ByteArray))]] : List (List AV)).length : Int), zA xs, p) = some (v, zA xs, p1) := h1
 have h0 : 0 <= v := m1.1
 rcases (show v = 0 \/ v = 1 by omega) with rfl | rfl
 ·refine ⟨ann, p1, ?_, .inl rfl, D1⟩
  simp only [zhu, FSpec.d, zyt, h1]
  rfl
 ·refine ⟨bob, p1, ?_, .inr rfl, D1⟩
  simp only [zhu, FSpec.d, zyt, h1]
  rfl
theorem zke {xs : List Int} (n : Nat) (hn : n <= 50) (X : List (List AV)) : ∀ (d i f : Nat) (p now : Int) (C : List (List RT7)), i + d = n -> d < f -> Sc xs p -> 100 <= now -> now <= 100 + 50 * i -> CG now i (4 * i) C ->
  ∃ (now' p' : Int) (C' : List (List RT7)), (zaG 600).L f ((n : Int), now, (i : Int), zA xs, p, X, zG C) = some (now', zA xs, p', X, zG C') /\ Sc xs p' /\ 100 <= now' /\ now' <= 100 + 50 * n /\ CG now' n (4 * n) C' := by
 intro d
 induction d with
 | zero =>
  intro i f p now C hi hf D h1 h2 hC
  obtain ⟨f, rfl⟩ := pS hf
  obtain rfl : i = n := by omega
  refine ⟨now, p, C, ?_, D, h1, h2, hC⟩
  show (zaG 600).b _ _ ((zaG 600).L f) some = _
  have e2 : decide ((i : Int) < (i : Int)) = false := dF (by omega)
  simp only [zaG]
  simp only [e2]
 | succ d ih =>
  intro i f p now C hi hf D h1 h2 hC
  obtain ⟨f, rfl⟩ := pS hf
  have hle := hC.le
  have e2 : decide ((i : Int) < (n : Int)) = true := dT (by omega)
  have n1 := zp (show i < 1000000 by omega)
  obtain ⟨a1, p1, g1, m1, D1⟩ := zaP 600 (n := 50) (by omega) D
  obtain ⟨mx, hmx⟩ : ∃ mx : Int, mx = if (C.length : Int) > 1 then (C.length : Int) else 1 := ⟨_, rfl⟩
  have hmx' : 1 <= mx /\ mx <= 1000 := by rw [hmx]; split <;> omega
  obtain ⟨a2, p2, g2, m2, D2⟩ := zaP 600 (n := mx) (by omega) D1
  obtain ⟨a3, p3, g3, m3, D3⟩ := zaP 600 (n := 8) (by omega) D2
  have i1 : i64 (now + a1) = now + a1 := zX (by omega)
  obtain ⟨id, hid⟩ : ∃ id : Nat, a2 = (id : Int) := ⟨a2.toNat, by omega⟩
  subst hid
  have hgo : ∀ (q : Int) (C' : List (List RT7)), Sc xs q -> CG (now + a1) (i + 1) (4 * (i + 1)) C' -> ∃ (now' p' : Int) (C'' : List (List RT7)), (zaG 600).L f ((n : Int), now + a1, ((i + 1 : Nat) : Int), zA xs, q, X, zG C') = some (now', zA xs, p', X, zG C'') /\ Sc xs p' /\ 100 <= now' /\ now' <= 100 + 50 * n /\ CG now' n (4 * n) C'' := fun q C' hq hc => ih (i + 1) f q (now + a1) C' (by omega) (by omega) hq (by omega) (by omega) hc
  have hkeep : CG (now + a1) (i + 1) (4 * (i + 1)) C := hC.mono (by omega) (by omega) (by omega)
  have hres : ∀ y, (zaG 600).b ((n : Int), now, (i : Int), zA xs, p, X, zG C) _ ((zaG 600).L f) some = y -> (zaG 600).L (f + 1) ((n : Int), now, (i : Int), zA xs, p, X, zG C) = y := fun y h => h
  have key : ∃ (q : Int) (C' : List (List RT7)), (zaG 600).b ((n : Int), now, (i : Int), zA xs, p, X, zG C) _ ((zaG 600).L f) some = (zaG 600).L f ((n : Int), now + a1, ((i + 1 : Nat) : Int), zA xs, q, X, zG C') /\ Sc xs q /\ CG (now + a1) (i + 1) (4 * (i + 1)) C' := by
   obtain ⟨Lf, hLf⟩ : ∃ Lf, Lf = (zaG 600).L f := ⟨_, rfl⟩
   rw [<- hLf]
   simp only [zaG]
   simp only [e2, g1, zS, <- hmx, g2, g3, i1, n1]
   have he0 : 4 * i <= 500 := by omega
   rcases (show a3 = 0 \/ a3 = 1 \/ a3 = 2 \/ a3 = 3 \/ 4 <= a3 by omega) with rfl | rfl | rfl | rfl | h4
   ·have c0 : ((0 : Int) == 0) = true := by decide
    simp only [c0]
    obtain ⟨A, p4, g4, l4, v4, D4⟩ := zmx 4 (by omega) D3
    replace g4 : zwf 600 (4, zA xs, p3) = some (A.map zB, zA xs, p4) := g4
    simp only [g4, List.length_map]
    by_cases hA : 0 < A.length
    ·have c1 : decide ((A.length : Int) > 0) = true := dT (by omega)
     obtain ⟨b, p5, g5, hb, D5⟩ := zfE D4
     obtain ⟨a6, p6, g6, m6, D6⟩ := zaP 600 (n := (A.length : Int)) (by omega) D5
     obtain ⟨z, rfl⟩ : ∃ z : Nat, a6 = (z : Int) := ⟨a6.toNat, by omega⟩
     have hz : z < A.length := by omega
     have hz0 : 0 <= (z : Int) := by omega
     obtain ⟨d1, y1, r1, r2⟩ := zt2 hC he0 (by omega) (t := now + a1) (by omega) (by omega) (by omega) hb (v4.evn (by omega) A[z] (List.getElem_mem _)).g id
     simp only [c1, g5, g6, hz0, if_true, Int.toNat_natCast, zcp A z hz, ZE, r1]
     by_cases hy : y1 = 0
     ·obtain ⟨C', rfl, hC'⟩ := r2 hy
      have c2 : (y1 == 0) = true := by simp [hy]
      simp only [c2]
      exact ⟨p6, C', rfl, D6, hC'.mono (Int.le_refl _) (Nat.le_refl _) (by omega)⟩
     ·have c2 : (y1 == 0) = false := by simp [hy]
      simp only [c2]
      exact ⟨p6, C, rfl, D6, hkeep⟩
    ·have c1 : decide ((A.length : Int) > 0) = false := dF (by omega)
     simp only [c1]
     exact ⟨p4, C, rfl, D4, hkeep⟩
   ·have c0 : ((1 : Int) == 0) = false := by decide
    have c1 : ((1 : Int) == 1) = true := by decide
    obtain ⟨b, p5, g5, hb, D5⟩ := zfE D3
    obtain ⟨d1, y1, r1, r2⟩ := zsF hC he0 (by omega) (t := now + a1) (by omega) (by omega) (by omega) hb id
    simp only [c0, c1, g5, r1]
    by_cases hy : y1 = 0
    ·obtain ⟨C', rfl, hC'⟩ := r2 hy
     have c2 : (y1 == 0) = true := by simp [hy]
     simp only [c2]
     exact ⟨p5, C', rfl, D5, hC'.mono (Int.le_refl _) (Nat.le_refl _) (by omega)⟩
    ·have c2 : (y1 == 0) = false := by simp [hy]
     simp only [c2]
     exact ⟨p5, C, rfl, D5, hkeep⟩
   ·have c0 : ((2 : Int) == 0) = false := by decide
    have c1 : ((2 : Int) == 1) = false := by decide
    have c2 : ((2 : Int) == 2) = true := by decide
    obtain ⟨a4, p4, g4, m4, D4⟩ := zaP 600 (n := mx) (by omega) D3
    obtain ⟨to, rfl⟩ : ∃ to : Nat, a4 = (to : Int) := ⟨a4.toNat, by omega⟩
    obtain ⟨b, p5, g5, hb, D5⟩ := zfE D4
    obtain ⟨d1, y1, r1, r2⟩ := zx6 hC he0 (by omega) (t := now + a1) (by omega) (by omega) (by omega) hb id to
    simp only [c0, c1, c2, g4, g5, r1]
    by_cases hy : y1 = 0
    ·obtain ⟨C', rfl, hC'⟩ := r2 hy
     have c2 : (y1 == 0) = true := by simp [hy]
     simp only [c2]
     exact ⟨p5, C', rfl, D5, hC'.mono (Int.le_refl _) (Nat.le_refl _) (by omega)⟩
    ·have c2 : (y1 == 0) = false := by simp [hy]
     simp only [c2]
     exact ⟨p5, C, rfl, D5, hkeep⟩
   ·have c0 : ((3 : Int) == 0) = false := by decide
    have c1 : ((3 : Int) == 1) = false := by decide
    have c2 : ((3 : Int) == 2) = false := by decide
    have c3 : ((3 : Int) == 3) = true := by decide
    obtain ⟨b, p5, g5, hb, D5⟩ := zfE D3
    obtain ⟨d1, y1, r1, r2⟩ := zqa hC he0 (by omega) (t := now + a1) (by omega) (by omega) (by omega) hb id
    simp only [c0, c1, c2, c3, g5, r1]
    by_cases hy : y1 = 0
    ·obtain ⟨C', rfl, hC'⟩ := r2 hy
     have c2 : (y1 == 0) = true := by simp [hy]
     simp only [c2]
     exact ⟨p5, C', rfl, D5, hC'.mono (Int.le_refl _) (Nat.le_refl _) (by omega)⟩
    ·have c2 : (y1 == 0) = false := by simp [hy]
     simp only [c2]
     exact ⟨p5, C, rfl, D5, hkeep⟩
   ·have c0 : (a3 == 0) = false := by simp; omega
    have c1 : (a3 == 1) = false := by simp; omega
    have c2 : (a3 == 2) = false := by simp; omega
    have c3 : (a3 == 3) = false := by simp; omega
    obtain ⟨A, p4, g4, l4, v4, D4⟩ := zmx 4 (by omega) D3
    replace g4 : zwf 600 (4, zA xs, p3) = some (A.map zB, zA xs, p4) := g4
    obtain ⟨C', l, r1, r2⟩ := znJ hC (by omega) v4 (by omega) (by omega) (t := now + a1) (by omega) (by omega) (by omega)
    have c4 : ((0 : Int) == 0) = true := by decide
    simp only [c0, c1, c2, c3, g4, r1, c4]
    exact ⟨p4, C', rfl, D4, r2.mono (Int.le_refl _) (Nat.le_refl _) (by omega)⟩
  obtain ⟨q, C', k1, k2, k3⟩ := key
  obtain ⟨now', p', C'', s1, s2⟩ := hgo q C' k2 k3
  exact ⟨now', p', C'', hres _ (k1.trans s1), s2⟩
theorem zuO {xs : List Int} {p : Int} (D : Sc xs p) (n : Nat) (hn : n <= 50) : ∃ (C : List (List RT7)) (t p' : Int), zDz 600 ((n : Int), zA xs, p) = some (zG C, t, zA xs, p') /\ Sc xs p' /\ 100 <= t /\ t <= 100 + 50 * n /\ CG t n (4 * n) C := by
 obtain ⟨t, p', C, h1, h2, h3, h4, h5⟩ := zke n hn [] n 0 600 p 100 [] (by omega) (by omega) D (by omega) (by omega) (CG.nil _ _ _)
 replace h1 : (zaG 600).L 600 ((n : Int), 100, 0, zA xs, p, [], []) = _ := h1
 refine ⟨C, t, p', ?_, h2, h3, h4, h5⟩
 simp only [zDz, FSpec.d, zEH, zz5, h1]
end Go.Proofs.YthdgnfcbehcplaaDoor
end
