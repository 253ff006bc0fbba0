/- Several texts as one (written by pack.py). -/
import Derived.Test.YthdgnfcbehcplaaDoorCsD
set_option linter.unusedVariables false
set_option linter.unusedSimpArgs false
set_option linter.unnecessarySimpa false
section
namespace Go.Proofs.YthdgnfcbehcplaaDoor
noncomputable section
open Go.RowKit
set_option maxRecDepth 4000
set_option maxHeartbeats 4000000
def zwm : Nat -> Keep × Keep := anL []
def zDl (N : Nat) : GamK := gam (P := qP) []
def znY (N : Nat) : FSpec where
 X := qL
 Y := qL
 ash := [[some 29]]
 S := ⟨[[none]], [], [some 29], [], []⟩
 pat := λ a b => rdA [.lst 29] [] a b λ ⟨a0, _⟩ _ => a0
 args := λ x => [(AV.list 29 x none)]
 ret := λ y => ⟨(AV.fn (.func 91) [] [(AV.ptr 0 0)]), [], some [(AV.list 29 y none)], [], [], [], none⟩
 t := λ x α k => (k x)
abbrev zDj (N : Nat) (x : qL) : Option (qL) := (znY N).d x
theorem zsv (N : Nat) : Zd (znY N).t := by
 intro x α β k k' r r' h h1
 revert h
 dsimp only [znY]
 (repeat' (first | (with_reducible refine ze ?_ ?_) | split)) <;> intro h <;> first | exact h1 _ h | cases h
theorem zsw (N : Nat) : Zg (zn qP) (zDl N) zwm (lam N []) Tryd.f67 (znY N) := λ x => by kernel_rfl
def zDk (N : Nat) : Ent qP := zA (zc qP) (zh _) zk 67 Tryd.f67 Tryd.func67 rfl zwm (lam N []) (zm (l := []) an (by kernel_rfl)) (znY N) (λ _ => ⟨rfl, rfl⟩) (zsw N) (λ _ _ _ h => zw h (λ _ _ => rfl) (λ _ _ => rfl)) (zsv N)
def zeo : Nat -> Keep × Keep := anL []
def zmM (N : Nat) : GamK := gam (P := qP) [zrf N]
def ZU (N : Nat) : FSpec where
 X := Int × RT7 × Int × qL
 Y := Bool × Int × qL
 ash := []
 S := ⟨[], [[none], [some 2000025]], [], [6400262144], []⟩
 pat := λ a b => rdA [.any, .any, .any, .ptr 0 0, .any, .ptr 1 0, .any, .any, .any, .any, .any, .any, .any, .any, .any, .any, .any, .any, .any, .any, .any, .any, .any, .int .i64, .agg RK7, .any, .any, .any, .any, .any, .any, .any, .any, .any, .any, .any, .any, .any, .any, .any, .any] [.cells [.int .i64], .cells [.tok 25 6400262144]] a b λ ⟨_, _, _, _, _, _, _, _, _, _, _, _, _, _, _, _, _, _, _, _, _, _, _, a0, a1, _, _, _, _, _, _, _, _, _, _, _, _, _, _, _, _, _⟩ ⟨⟨a2, _⟩, ⟨a3, _⟩, _⟩ => (a0, a1, a2, a3)
 args := λ x => [AV.any, AV.any, AV.any, (AV.ptr 0 0), AV.any, (AV.ptr 1 0), AV.any, AV.any, AV.any, AV.any, AV.any, AV.any, AV.any, AV.any, AV.any, AV.any, AV.any, AV.any, AV.any, AV.any, AV.any, AV.any, AV.any, (AV.v (.int .i64 x.1)), (AV.agg (zQ x.2.1)), AV.any, AV.any, AV.any, AV.any, AV.any, AV.any, AV.any, AV.any, AV.any, AV.any, AV.any, AV.any, AV.any, AV.any, AV.any, AV.any]
 bs := λ x => [[(AV.v (.int .i64 x.2.2.1))], [(AV.list 25 x.2.2.2 (some 6400262144))]]
 ret := λ y => ⟨.v (.bool y.1), [[(AV.v (.int .i64 y.2.1))], [(AV.list 25 y.2.2 (some 6400262144))]], none, [6400262144], [6400262144], [], none⟩
 t := λ x α k => (match (decide (x.2.1.2.1 <= x.2.2.1)) with | true => (if 0 <= x.2.1.1 /\ x.2.1.1 < 7 then (match ((gtab0.map AV.v).drop (x.2.1.1.toNat * 1))[0]? with | some x1 => (match x1 with | .v (.bool b2) => (match b2 with | true => (match zdW N (zx x.2.1) with | some y3 => (if (x.2.2.2.length + [(zB y3)].length) * 248 <= zg then (k (false, x.2.2.1, (x.2.2.2 ++ [(zB y3)]))) else none) | none => none) | false => (k (false, x.2.2))) | _ => none) | none => none) else none) | false => (k (true, x.2.2)))
abbrev zmL (N : Nat) (x : Int × RT7 × Int × qL) : Option (Bool × Int × qL) := (ZU N).d x
def zbh : Code := zB0 (zb 17 (Tryd.f43.body.getD .skip))
def zbi : Code := zy6 (zb 17 (Tryd.f43.body.getD .skip))
theorem zge (N : Nat) : Zd (ZU N).t := by
 intro x α β k k' r r' h h1
 revert h
 dsimp only [ZU]
 (repeat' (first | (with_reducible refine ze ?_ ?_) | split)) <;> intro h <;> first | exact h1 _ h | cases h
theorem zgf (N : Nat) (x : (ZU N).X) : ziL (zn qP) (zmM N) zeo (lam N []) zbh zbi 9000 9100 2 (ZU N).S ((ZU N).args x) ((ZU N).bs x) = (ZU N).t x Ret (λ y => some ((ZU N).ret y)) := by kernel_rfl
def zgd (N : Nat) : REnt qP zbh zbi 2 := zB4 (zc qP) (zh _) zk zeo (lam N []) zbh zbi 9000 9100 2 (by kernel_rfl) (by kernel_rfl) (ZU N) (λ _ => ⟨rfl, rfl⟩) (zgf N) (λ _ _ _ h => zw h (λ _ _ => rfl) (λ _ _ => rfl)) (zge N)
def JG : Nat -> Keep × Keep := anL [(9, ⟨[3, 5, 15, 16], [], [3, 5], [(14, 1)], [((5, 0), 25)], [], [], [], false, none, []⟩, ⟨[5], [], [5], [], [((5, 0), 25)], [], [], [], false, none, []⟩), (17, ⟨[3, 5, 15, 16, 22], [], [3, 5, 22], [(14, 1)], [((5, 0), 25)], [], [], [], true, none, []⟩, ⟨[3, 5, 15, 16], [], [3, 5], [(14, 1)], [((5, 0), 25)], [], [], [], false, none, []⟩)]
def zz4 (N : Nat) : GamK := gam (P := qP) [zqr N, zDk N]
def ZQ (N : Nat) : LSpec where
 X := qL × Int × Int × Int × qL × qL × Nat
 Y := (qL × Int × Int × Int × qL)
 p := λ s => rdS 41 0 [(14, .lst 1), (3, .ptr 3 0), (5, .ptr 5 0), (15, .int .i64), (16, .int .i64), (22, .fn1 91 22)] [(3, .cells [.int .i64]), (5, .cells [.tok 25 6401310720]), (22, .cells [.lst 29])] s λ ⟨a0, _, _, a1, a2, _, _⟩ ⟨⟨a3, _⟩, ⟨a4, _⟩, ⟨a5, _⟩, _⟩ => (a0, a1, a2, a3, a4, a5, a5.length)
 st := λ u17 => mkS 41 [(14, (AV.list 1 u17.1 none)), (3, (AV.ptr 3 0)), (5, (AV.ptr 5 0)), (15, (qI u17.2.1)), (16, (qI u17.2.2.1)), (22, (AV.fn (.func 91) [] [(AV.ptr 22 0)]))] [(3, [(qI u17.2.2.2.1)]), (5, [(AV.list 25 u17.2.2.2.2.1 (some 6401310720))]), (22, [(AV.list 29 u17.2.2.2.2.2.1 none)])] (JG 17).1.toks 0
 out := λ y => (.normal, mkS 41 [(14, (AV.list 1 y.1 none)), (3, (AV.ptr 3 0)), (5, (AV.ptr 5 0)), (15, (qI y.2.1)), (16, (qI y.2.2.1))] [(3, [(qI y.2.2.2.1)]), (5, [(AV.list 25 y.2.2.2.2 (some 6401310720))])] (JG 17).2.toks 0)
 b := λ u17 α kn ke => (if u17.2.2.2.2.2.1.length <= 1000000 then (match u17.2.2.2.2.2.2 with | 0 => (ke (u17.1, u17.2.1, u17.2.2.1, u17.2.2.2.1, u17.2.2.2.2.1)) | m17 + 1 => (match u17.2.2.2.2.2.1[m17]? with | some r17 => (match zuy RK7 r17 with | some e17 => (match zmL N ((m17 : Int), e17, u17.2.2.2.1, u17.2.2.2.2.1) with | some y5 => (match y5.1 with | true => (kn (u17.1, u17.2.1, u17.2.2.1, y5.2.1, y5.2.2, u17.2.2.2.2.2.1, m17)) | false => (ke (u17.1, u17.2.1, u17.2.2.1, y5.2))) | none => none) | none => none) | none => none)) else none)
abbrev zxx (N : Nat) (x : qL × Int × Int × Int × qL × qL × Nat) : Option ((qL × Int × Int × Int × qL)) := (ZQ N).L N x
def zcM (N : Nat) : LSpec where
 X := qL × Int × Int × Int × qL
 Y := (qL)
 p := λ s => rdS 41 0 [(14, .lst 1), (3, .ptr 3 0), (5, .ptr 5 0), (15, .int .i64), (16, .int .i64)] [(3, .cells [.int .i64]), (5, .cells [.tok 25 6401310720])] s λ ⟨a0, _, _, a1, a2, _⟩ ⟨⟨a3, _⟩, ⟨a4, _⟩, _⟩ => (a0, a1, a2, a3, a4)
 st := λ u9 => mkS 41 [(14, (AV.list 1 u9.1 none)), (3, (AV.ptr 3 0)), (5, (AV.ptr 5 0)), (15, (qI u9.2.1)), (16, (qI u9.2.2.1))] [(3, [(qI u9.2.2.2.1)]), (5, [(AV.list 25 u9.2.2.2.2 (some 6401310720))])] (JG 9).1.toks 0
 out := λ y => (.exit 0, mkS 41 [(5, (AV.ptr 5 0))] [(5, [(AV.list 25 y (some 6401310720))])] (JG 9).2.toks 0)
 b := λ u9 α kn ke => (match (decide (u9.2.2.1 < u9.2.1)) with | true => (if 0 <= u9.2.2.1 then (match u9.1[u9.2.2.1.toNat]? with | some c7 => (match zdO c7 with | some e8 => (match zDj N e8.1 with | some y9 => (match zxx N (u9.1, u9.2.1, u9.2.2.1, u9.2.2.2.1, u9.2.2.2.2, y9, y9.length) with | some y10 => (kn (y10.1, y10.2.1, (i64 (y10.2.2.1 + 1)), y10.2.2.2)) | none => none) | none => none) | none => none) | none => none) else none) | false => (ke u9.2.2.2.2))
abbrev zz3 (N : Nat) (x : qL × Int × Int × Int × qL) : Option ((qL)) := (zcM N).L N x
def ze8 (N : Nat) : FSpec where
 X := qL × Int
 Y := qL
 ash := [[some 1], [none]]
 S := ⟨[[some 2000025]], [], [], [], []⟩
 pat := λ a b => zl a λ v1 c2 => jA v1 λ c3 => zl c3 λ c4 c5 => jg 1 c4 λ a0 => zV c5 <| zl c2 λ v6 c7 => Jo .i64 v6 λ a1 => zV c7 <| zV b <| some (a0, a1)
 args := λ x => [(AV.agg [(AV.list 1 x.1 none)]), (AV.v (.int .i64 x.2))]
 ret := λ y => ⟨(AV.list 25 y (some 2560000000)), [], none, [], [2560000000], [], none⟩
 t := λ x α k => (match zjO N x.1 with | some y1 => (match (!y1) with | true => (k ([] : qL)) | false => (match zz3 N (x.1, (x.1.length : Int), 0, x.2, ([] : qL)) with | some y11 => (k y11) | none => none)) | none => none)
abbrev zxw (N : Nat) (x : qL × Int) : Option (qL) := (ze8 N).d x
def zcN (N : Nat) : List (Nat × LSpec) := [(9, zcM N), (17, ZQ N)]
def zgc : Code := Tryd.f43.body.getD .skip
theorem zmK (N : Nat) : Par (ZQ N).b := by
 intro x α β kn ke kn' ke' r r' h h1 h2
 revert h
 dsimp only [ZQ]
 (repeat' (first | (with_reducible refine ze ?_ ?_) | split)) <;> intro h <;> first | exact h1 _ h | exact h2 _ h | cases h
theorem zkb (N : Nat) (u17 : (ZQ N).X) (α : Type) (kn : Nat -> AS -> Option α) (ke : Out -> Option α) : zag (zgd N).F JG 17 fBk RK7 22 23 24 [3, 5] u17.2.2.2.2.2.2 ((ZQ N).st u17) kn ke = (ZQ N).b u17 α (λ x => kn x.2.2.2.2.2.2 ((ZQ N).st x)) (λ y => (ZQ N).sp y α ke) := by kernel_rfl
theorem zrq (N : Nat) (u17 : (ZQ N).X) : ((ZQ N).st u17).at 22 = .fn (.func fBk) [] [.ptr 22 0] := by kernel_rfl
theorem zrr (N : Nat) (u17 : (ZQ N).X) : ((ZQ N).st u17).cx 22 = some [.list 29 u17.2.2.2.2.2.1 none] := by kernel_rfl
theorem zen (N : Nat) : ZB qP JG N (zcN N) 17 (zb 17 zgc) :=
 zy9 JG N (zcN N) 17 zgc (by kernel_rfl) (by decide) (zgd N) (ZQ N) (λ x => x.2.2.2.2.2.2) rfl (λ s x hc h => by dsimp only [ZQ] at h; exact zG hc h (λ _ _ => rfl) rfl rfl rfl) 22 (λ u17 => u17.2.2.2.2.2.1) (zrq N) (zrr N) (λ s x h => by dsimp only [ZQ] at h; obtain ⟨a, b, rfl⟩ := zB3 h; rfl) (λ x b h => zpE rfl h) (λ y b h => zpE rfl h) (zkb N) (zmK N)
theorem zrs (N : Nat) : Par (zcM N).b := by
 intro x α β kn ke kn' ke' r r' h h1 h2
 revert h
 dsimp only [zcM]
 (repeat' (first | (with_reducible refine ze ?_ ?_) | split)) <;> intro h <;> first | exact h1 _ h | exact h2 _ h | cases h
theorem zmI (N : Nat) : Z3 (zn qP) (zz4 N) JG N (zcN N) 9 zgc (zcM N) := λ x α kn ke => by kernel_rfl
theorem zmJ (N : Nat) : ZB qP JG N (zcN N) 9 (zb 9 zgc) :=
 zD (zc qP) (zh _) zk JG N (zcN N) 9 zgc (l := [(17, zb 17 zgc)]) (by kernel_rfl) (by kernel_rfl) (al (zen N) an) (zcM N) rfl (λ s x hc h => by dsimp only [zcM] at h; exact zG hc h (λ _ _ => rfl) rfl rfl rfl) (λ _ => rfl) (zmI N) (zrs N)
theorem zrt (N : Nat) : Zd (ze8 N).t := by
 intro x α β k k' r r' h h1
 revert h
 dsimp only [ze8]
 (repeat' (first | (with_reducible refine ze ?_ ?_) | split)) <;> intro h <;> first | exact h1 _ h | cases h
theorem zru (N : Nat) : Zg (zn qP) (zz4 N) JG (lam N (zcN N)) Tryd.f43 (ze8 N) := λ x => by kernel_rfl
theorem zxy (N : Nat) (a : List AV) (b : qL) (x : (ze8 N).X) (h : (ze8 N).pat a b = some x) : a = (ze8 N).args x /\ b = (ze8 N).bs x := by
 obtain ⟨v1, c2, rfl, g0⟩ := zd (show zl _ _ = some x from h)
 obtain ⟨c3, rfl, g1⟩ := zW g0; clear g0
 obtain ⟨c4, c5, rfl, g2⟩ := zd g1; clear g1
 obtain ⟨a0, rfl, g3⟩ := zr g2; clear g2
 obtain ⟨rfl, g4⟩ := zi g3; clear g3
 obtain ⟨v6, c7, rfl, g5⟩ := zd g4; clear g4
 obtain ⟨a1, rfl, g6⟩ := zJ g5; clear g5
 obtain ⟨rfl, g7⟩ := zi g6; clear g6
 obtain ⟨rfl, g8⟩ := zi g7; clear g7
 clear h
 cases g8
 exact ⟨rfl, rfl⟩
def zCY (N : Nat) : Ent qP := zA (zc qP) (zh _) zk 43 Tryd.f43 Tryd.func43 rfl JG (lam N (zcN N)) (zm (l := [(9, zb 9 zgc), (17, zb 17 zgc)]) (al (zmJ N) (al (zen N) an)) (by kernel_rfl)) (ze8 N) (λ _ => ⟨rfl, rfl⟩) (zru N) (zxy N) (zrt N)
end
end Go.Proofs.YthdgnfcbehcplaaDoor
end
section
namespace Go.Proofs.YthdgnfcbehcplaaDoor
noncomputable section
open Go.RowKit
set_option maxRecDepth 4000
set_option maxHeartbeats 4000000
def zzP (N : Nat) : FSpec where
 X := qL × Int
 Y := Int × qL × Int
 ash := [[none]]
 bsh := [[some 2000001, none]]
 S := ⟨[[none]], [[some 2000001, none]], [], [6400000000], []⟩
 pat := λ a b => rdA [.ptr 0 0] [.cells [.tok 1 6400000000, .int .i64]] a b λ ⟨_, _⟩ ⟨⟨a0, a1, _⟩, _⟩ => (a0, a1)
 args := λ x => [(AV.ptr 0 0)]
 bs := λ x => [[(AV.list 1 x.1 (some 6400000000)), (AV.v (.int .i64 x.2))]]
 ret := λ y => ⟨(AV.v (.int .i64 y.1)), [[(AV.list 1 y.2.1 (some 6400000000)), (AV.v (.int .i64 y.2.2))]], none, [6400000000], [6400000000], [], none⟩
 t := λ x α k => (match (decide (x.2 >= (x.1.length : Int))) with | true => (k (0, x)) | false => (if 0 <= (i64 ((i64 (x.2 + 1)) - 1)) then (match x.1[(i64 ((i64 (x.2 + 1)) - 1)).toNat]? with | some c1 => (match c1[0]? with | some x2 => (match x2 with | .v (.int q4 n3) => (if q4 = .i64 then (k (n3, x.1, (i64 (x.2 + 1)))) else none) | _ => none) | none => none) | none => none) else none))
abbrev zxs (N : Nat) (x : qL × Int) : Option (Int × qL × Int) := (zzP N).d x
def zvH : Nat -> Keep × Keep := anL []
def zCC (N : Nat) : GamK := gam (P := qP) []
def zjW (N : Nat) : FSpec where
 X := Int × Int
 Y := Int
 ash := [[none], [none]]
 S := ⟨[[none]], [], [], [], []⟩
 pat := λ a b => rdA [.int .i64, .int .i64] [] a b λ ⟨a0, a1, _⟩ _ => (a0, a1)
 args := λ x => [(AV.v (.int .i64 x.1)), (AV.v (.int .i64 x.2))]
 ret := λ y => ⟨(AV.v (.int .i64 y)), [], none, [], [], [], none⟩
 t := λ x α k => (match (decide (x.2 < 1)) with | true => (k 0) | false => (if x.2 = 0 then none else (match (decide ((x.1.tmod x.2) < 0)) with | true => (k (i64 ((x.1.tmod x.2) + x.2))) | false => (k (x.1.tmod x.2)))))
abbrev zmh (N : Nat) (x : Int × Int) : Option (Int) := (zjW N).d x
theorem zqK (N : Nat) : Zd (zjW N).t := by
 intro x α β k k' r r' h h1
 revert h
 dsimp only [zjW]
 (repeat' (first | (with_reducible refine ze ?_ ?_) | split)) <;> intro h <;> first | exact h1 _ h | cases h
theorem zqL (N : Nat) : Zg (zn qP) (zCC N) zvH (lam N []) Tryd.f21 (zjW N) := λ x => by kernel_rfl
def zzM (N : Nat) : Ent qP := zA (zc qP) (zh _) zk 21 Tryd.f21 Tryd.func21 rfl zvH (lam N []) (zm (l := []) an (by kernel_rfl)) (zjW N) (λ _ => ⟨rfl, rfl⟩) (zqL N) (λ _ _ _ h => zw h (λ _ _ => rfl) (λ _ _ => rfl)) (zqK N)
def zEt (N : Nat) : FSpec where
 X := Int × qL × Int
 Y := Int × qL × Int
 ash := [[none], [none]]
 bsh := [[some 2000001, none]]
 S := ⟨[[none]], [[some 2000001, none]], [], [6400000000], []⟩
 pat := λ a b => rdA [.ptr 0 0, .int .i64] [.cells [.tok 1 6400000000, .int .i64]] a b λ ⟨_, a0, _⟩ ⟨⟨a1, a2, _⟩, _⟩ => (a0, a1, a2)
 args := λ x => [(AV.ptr 0 0), (AV.v (.int .i64 x.1))]
 bs := λ x => [[(AV.list 1 x.2.1 (some 6400000000)), (AV.v (.int .i64 x.2.2))]]
 ret := λ y => ⟨(AV.v (.int .i64 y.1)), [[(AV.list 1 y.2.1 (some 6400000000)), (AV.v (.int .i64 y.2.2))]], none, [6400000000], [6400000000], [], none⟩
 t := λ x α k => (match zxs N x.2 with | some y1 => (match zmh N (y1.1, x.1) with | some y2 => (k (y2, y1.2)) | none => none) | none => none)
abbrev zc4 (N : Nat) (x : Int × qL × Int) : Option (Int × qL × Int) := (zEt N).d x
abbrev RK8 : List Ck := [.str, .str, .str, .str, .int .i64, .int .i64, .int .i64, .int .i64, .int .i64, .tk 9 6401049152, .int .i64, .int .i64, .int .i64, .int .i64, .int .i64, .int .i64, .int .i64, .int .i64, .int .i64, .int .i64, .int .i64, .int .i64, .int .i64, .int .i64, .int .i64]
abbrev RT8 : Type := ByteArray × ByteArray × ByteArray × ByteArray × Int × Int × Int × Int × Int × qL × Int × Int × Int × Int × Int × Int × Int × Int × Int × Int × Int × Int × Int × Int × Int × Unit
def zCf (e : RT8) : List AV := enc RK8 e
def zv8 : Nat -> Keep × Keep := anL []
def zC7 (N : Nat) : GamK := gam (P := qP) [zzM N]
def zne (N : Nat) : FSpec where
 X := Int
 Y := RT2
 ash := [[none]]
 S := ⟨[[none, none, none, none]], [], [], [], []⟩
 pat := λ a b => rdA [.int .i64] [] a b λ ⟨a0, _⟩ _ => a0
 args := λ x => [(AV.v (.int .i64 x))]
 ret := λ y => ⟨(AV.agg (zBh y)), [], none, [], [], [], none⟩
 t := λ x α k => (match zmh N (x, 6) with | some y1 => (if 0 <= y1 then (match [[(AV.v (.string (⟨#[83, 49]⟩ : ByteArray)))], [(AV.v (.string (⟨#[83, 50]⟩ : ByteArray)))], [(AV.v (.string (⟨#[83, 51]⟩ : ByteArray)))], [(AV.v (.string (⟨#[83, 52]⟩ : ByteArray)))], [(AV.v (.string (⟨#[83, 53]⟩ : ByteArray)))], [(AV.v (.string (⟨#[83, 54]⟩ : ByteArray)))]][y1.toNat]? with | some c2 => (match c2[0]? with | some x3 => (match x3 with | .v (.string s4) => (k ((⟨#[65, 66]⟩ : ByteArray), s4, (⟨#[48, 48]⟩ : ByteArray), (⟨#[66, 72, 90]⟩ : ByteArray), ())) | _ => none) | none => none) | none => none) else none) | none => none)
abbrev zrO (N : Nat) (x : Int) : Option (RT2) := (zne N).d x
theorem zrP (N : Nat) : Zd (zne N).t := by
 intro x α β k k' r r' h h1
 revert h
 dsimp only [zne]
 (repeat' (first | (with_reducible refine ze ?_ ?_) | split)) <;> intro h <;> first | exact h1 _ h | cases h
theorem zrQ (N : Nat) : Zg (zn qP) (zC7 N) zv8 (lam N []) Tryd.f50 (zne N) := λ x => by kernel_rfl
def zz8 (N : Nat) : Ent qP := zA (zc qP) (zh _) zk 50 Tryd.f50 Tryd.func50 rfl zv8 (lam N []) (zm (l := []) an (by kernel_rfl)) (zne N) (λ _ => ⟨rfl, rfl⟩) (zrQ N) (λ _ _ _ h => zw h (λ _ _ => rfl) (λ _ _ => rfl)) (zrP N)
def zz9 (N : Nat) : FSpec where
 X := Int × qL × Int
 Y := Int × Int × Int × qL × Int
 ash := [[none], [none]]
 bsh := [[some 2000001, none]]
 S := ⟨[[none, none, none]], [[some 2000001, none]], [], [6400000000], []⟩
 pat := λ a b => rdA [.ptr 0 0, .int .i64] [.cells [.tok 1 6400000000, .int .i64]] a b λ ⟨_, a0, _⟩ ⟨⟨a1, a2, _⟩, _⟩ => (a0, a1, a2)
 args := λ x => [(AV.ptr 0 0), (AV.v (.int .i64 x.1))]
 bs := λ x => [[(AV.list 1 x.2.1 (some 6400000000)), (AV.v (.int .i64 x.2.2))]]
 ret := λ y => ⟨(AV.agg [(AV.v (.int .i64 y.1)), (AV.v (.int .i64 y.2.1)), (AV.v (.int .i64 y.2.2.1))]), [[(AV.list 1 y.2.2.2.1 (some 6400000000)), (AV.v (.int .i64 y.2.2.2.2))]], none, [6400000000], [6400000000], [], none⟩
 t := λ x α k => (match zc4 N ((i64 ((i64 (2 * x.1)) + 1)), x.2) with | some y1 => (match zc4 N ((i64 ((i64 (2 * x.1)) + 1)), y1.2) with | some y2 => (match zc4 N ((i64 (x.1 + 1)), y2.2) with | some y3 => (k ((i64 (y1.1 - x.1)), (i64 (y2.1 - x.1)), y3)) | none => none) | none => none) | none => none)
abbrev zxG (N : Nat) (x : Int × qL × Int) : Option (Int × Int × Int × qL × Int) := (zz9 N).d x
def zAd (N : Nat) : FSpec where
 X := qL × qL × Int
 Y := Int × qL × Int
 ash := [[none], [some 1]]
 bsh := [[some 2000001, none]]
 S := ⟨[[none]], [[some 2000001, none]], [], [6400000000], []⟩
 pat := λ a b => rdA [.ptr 0 0, .lst 1] [.cells [.tok 1 6400000000, .int .i64]] a b λ ⟨_, a0, _⟩ ⟨⟨a1, a2, _⟩, _⟩ => (a0, a1, a2)
 args := λ x => [(AV.ptr 0 0), (AV.list 1 x.1 none)]
 bs := λ x => [[(AV.list 1 x.2.1 (some 6400000000)), (AV.v (.int .i64 x.2.2))]]
 ret := λ y => ⟨(AV.v (.int .i64 y.1)), [[(AV.list 1 y.2.1 (some 6400000000)), (AV.v (.int .i64 y.2.2))]], none, [6400000000], [6400000000], [], none⟩
 t := λ x α k => (match zc4 N ((x.1.length : Int), x.2) with | some y1 => (if 0 <= y1.1 then (match x.1[y1.1.toNat]? with | some c2 => (match c2[0]? with | some x3 => (match x3 with | .v (.int q5 n4) => (if q5 = .i64 then (k (n4, y1.2)) else none) | _ => none) | none => none) | none => none) else none) | none => none)
abbrev zrR (N : Nat) (x : qL × qL × Int) : Option (Int × qL × Int) := (zAd N).d x
abbrev zD5 : List Ck := [.str, .str, .str, .str, .int .i64, .int .i64, .int .i64, .int .i64, .int .i64, .vs 2020489 9, .int .i64, .int .i64, .int .i64, .int .i64, .int .i64, .int .i64, .int .i64, .int .i64, .int .i64, .int .i64, .int .i64, .int .i64, .int .i64, .int .i64, .int .i64]
abbrev zqe : Type := ByteArray × ByteArray × ByteArray × ByteArray × Int × Int × Int × Int × Int × Nat × Int × Int × Int × Int × Int × Int × Int × Int × Int × Int × Int × Int × Int × Int × Int × Unit
def zuc (e : zqe) : List AV := enc zD5 e
abbrev RK11 : List Ck := [.str, .str, .str, .str, .int .i64, .int .i64, .int .i64, .int .i64, .int .i64, .vs 1 9, .int .i64, .int .i64, .int .i64, .int .i64, .int .i64, .int .i64, .int .i64, .int .i64, .int .i64, .int .i64, .int .i64, .int .i64, .int .i64, .int .i64, .int .i64]
abbrev zyf : Type := ByteArray × ByteArray × ByteArray × ByteArray × Int × Int × Int × Int × Int × Nat × Int × Int × Int × Int × Int × Int × Int × Int × Int × Int × Int × Int × Int × Int × Int × Unit
def zBg (e : zyf) : List AV := enc RK11 e
def zmb : Nat -> Keep × Keep := anL [(6, ⟨[0, 1, 4, 5, 6, 7], [], [0, 4, 5], [], [((0, 0), 1), ((4, 9), 9)], [], [((5, 9), 9)], [], false, none, []⟩, ⟨[0, 4, 5, 6], [], [0, 4, 5], [], [((0, 0), 1), ((4, 9), 9)], [], [((5, 9), 9)], [], false, none, []⟩)]
def jj (N : Nat) : LSpec where
 X := Int × Int × Int × qL × Int × RT8 × zqe × qA
 Y := (Int × qL × Int × RT8 × zqe × qA)
 p := λ s => rdS 98 1 [(0, .ptr 0 0), (1, .int .i64), (4, .ptr 4 0), (5, .ptr 5 0), (6, .int .i64), (7, .int .i64)] [(0, .cells [.tok 1 6400000000, .int .i64]), (4, .row RK8), (5, .row zD5), (2020489, .tt)] s λ ⟨_, a0, _, _, a1, a2, _⟩ ⟨⟨a3, a4, _⟩, a5, a6, a7, _⟩ => (a0, a1, a2, a3, a4, a5, a6, a7)
 st := λ u6 => mkS 98 [(0, (AV.ptr 0 0)), (1, (qI u6.1)), (4, (AV.ptr 4 0)), (5, (AV.ptr 5 0)), (6, (qI u6.2.1)), (7, (qI u6.2.2.1))] [(0, [(AV.list 1 u6.2.2.2.1 (some 6400000000)), (qI u6.2.2.2.2.1)]), (4, (zCf u6.2.2.2.2.2.1)), (5, (zuc u6.2.2.2.2.2.2.1)), (2020489, u6.2.2.2.2.2.2.2)] (zmb 6).1.toks 1
 out := λ y => (.exit 0, mkS 98 [(0, (AV.ptr 0 0)), (4, (AV.ptr 4 0)), (5, (AV.ptr 5 0)), (6, (qI y.1))] [(0, [(AV.list 1 y.2.1 (some 6400000000)), (qI y.2.2.1)]), (4, (zCf y.2.2.2.1)), (5, (zuc y.2.2.2.2.1)), (2020489, y.2.2.2.2.2)] (zmb 6).2.toks 1)
 b := λ u6 α kn ke => (match zc4 N (4, u6.2.2.2.1, u6.2.2.2.2.1) with | some y5 => (match (decide (u6.2.2.1 < (i64 (1 + y5.1)))) with | true => (match zrO N u6.2.2.1 with | some y6 => (match zc4 N (3, y5.2) with | some y7 => (if u6.2.2.2.2.2.2.1.2.2.2.2.2.2.2.2.2.1 * 9 <= u6.2.2.2.2.2.2.2.length /\ (u6.2.2.2.2.2.2.1.2.2.2.2.2.2.2.2.2.1 + [(zy (y6.1, y6.2.1, y6.2.2.1, y6.2.2.2.1, (i64 (u6.2.1 + (i64 (10 * u6.1)))), (i64 (u6.2.1 + (i64 (10 * u6.1)))), (i64 ((i64 (u6.2.1 + (i64 (10 * u6.1)))) + y7.1)), u6.1, 0, ()))].length) * 104 <= zg then (kn (u6.1, u6.2.1, (i64 (u6.2.2.1 + 1)), y7.2.1, y7.2.2, u6.2.2.2.2.2.1, (u6.2.2.2.2.2.2.1.1, u6.2.2.2.2.2.2.1.2.1, u6.2.2.2.2.2.2.1.2.2.1, u6.2.2.2.2.2.2.1.2.2.2.1, u6.2.2.2.2.2.2.1.2.2.2.2.1, u6.2.2.2.2.2.2.1.2.2.2.2.2.1, u6.2.2.2.2.2.2.1.2.2.2.2.2.2.1, u6.2.2.2.2.2.2.1.2.2.2.2.2.2.2.1, u6.2.2.2.2.2.2.1.2.2.2.2.2.2.2.2.1, (u6.2.2.2.2.2.2.1.2.2.2.2.2.2.2.2.2.1 + [(zy (y6.1, y6.2.1, y6.2.2.1, y6.2.2.2.1, (i64 (u6.2.1 + (i64 (10 * u6.1)))), (i64 (u6.2.1 + (i64 (10 * u6.1)))), (i64 ((i64 (u6.2.1 + (i64 (10 * u6.1)))) + y7.1)), u6.1, 0, ()))].length), u6.2.2.2.2.2.2.1.2.2.2.2.2.2.2.2.2.2), ((u6.2.2.2.2.2.2.2.take (u6.2.2.2.2.2.2.1.2.2.2.2.2.2.2.2.2.1 * 9) ++ [(zy (y6.1, y6.2.1, y6.2.2.1, y6.2.2.2.1, (i64 (u6.2.1 + (i64 (10 * u6.1)))), (i64 (u6.2.1 + (i64 (10 * u6.1)))), (i64 ((i64 (u6.2.1 + (i64 (10 * u6.1)))) + y7.1)), u6.1, 0, ()))].flatten).map dat0))) else none) | none => none) | none => none) | false => (ke (u6.2.1, y5.2.1, y5.2.2, u6.2.2.2.2.2.1, u6.2.2.2.2.2.2.1, (u6.2.2.2.2.2.2.2.map dat0)))) | none => none)
abbrev zmd (N : Nat) (x : Int × Int × Int × qL × Int × RT8 × zqe × qA) : Option ((Int × qL × Int × RT8 × zqe × qA)) := (jj N).L N x
def zvF (N : Nat) : FSpec where
 X := Int × qL × Int
 Y := zyf × qL × Int × qA
 ash := [[none], [none]]
 bsh := [[some 2000001, none]]
 S := ⟨[[none, none, none, none, none, none, none, none, none, some 9, none, none, none, none, none, none, none, none, none, none, none, none, none, none, none]], [[some 2000001, none]], [], [6400000000], []⟩
 bm := true
 pat := λ a b => rdA [.ptr 0 0, .int .i64] [.cells [.tok 1 6400000000, .int .i64]] a b λ ⟨_, a0, _⟩ ⟨⟨a1, a2, _⟩, _⟩ => (a0, a1, a2)
 args := λ x => [(AV.ptr 0 0), (AV.v (.int .i64 x.1))]
 bs := λ x => [[(AV.list 1 x.2.1 (some 6400000000)), (AV.v (.int .i64 x.2.2))]]
 ret := λ y => ⟨(AV.agg (zBg y.1)), [[(AV.list 1 y.2.1 (some 6400000000)), (AV.v (.int .i64 y.2.2.1))]], some y.2.2.2, [6400000000], [6400000000], [], none⟩
 t := λ x α k => (match zc4 N (300, x.2) with | some y1 => (match zmd N (x.1, (i64 (1000 + y1.1)), 0, y1.2.1, y1.2.2, ((⟨#[]⟩ : ByteArray), (⟨#[]⟩ : ByteArray), (⟨#[]⟩ : ByteArray), (⟨#[]⟩ : ByteArray), 0, 0, 0, 0, 0, ([] : qL), 0, 0, 0, 0, 0, 0, 0, 0, 0, 0, 0, 0, 0, 0, 0, ()), ((⟨#[]⟩ : ByteArray), (⟨#[]⟩ : ByteArray), (⟨#[]⟩ : ByteArray), (⟨#[]⟩ : ByteArray), 0, 0, 0, 0, 0, 0, 0, 0, 0, 0, 0, 0, 0, 0, 0, 0, 0, 0, 0, 0, 0, ()), ([] : List AV)) with | some y8 => (if 0 <= (0 : Int) /\ (0 : Int) < (y8.2.2.2.2.1.2.2.2.2.2.2.2.2.2.1 : Int) then (match Jy (y8.2.2.2.2.2.drop ((0 + (0 : Int).toNat) * 9)) with | some e9 => (match zxG N (20, y8.2.1, y8.2.2.1) with | some y10 => (match zc4 N (40, y10.2.2.2) with | some y11 => (match zrR N ([[(AV.v (.int .i64 0))], [(AV.v (.int .i64 0))], [(AV.v (.int .i64 5))], [(AV.v (.int .i64 500))]], y11.2) with | some y12 => (match zc4 N (3, y12.2) with | some y13 => (match (decide (y13.1 > 0)) with | true => (match zc4 N (400, y13.2) with | some y14 => (match zc4 N (60, y14.2) with | some y15 => (k ((e9.1, e9.2.1, e9.2.2.1, e9.2.2.2.1, e9.2.2.2.2.1, e9.2.2.2.2.2.1, e9.2.2.2.2.2.2.1, e9.2.2.2.2.2.2.2.1, e9.2.2.2.2.2.2.2.2.1, y8.2.2.2.2.1.2.2.2.2.2.2.2.2.2.1, y10.1, y10.2.1, y10.2.2.1, (i64 (y8.1 - y11.1)), y12.1, 0, y10.1, y10.2.1, y10.2.2.1, y10.1, y10.2.1, y10.2.2.1, y14.1, (i64 (y14.1 + y15.1)), y13.1, ()), y15.2.1, y15.2.2, (y8.2.2.2.2.2.map dat0))) | none => none) | none => none) | false => (k ((e9.1, e9.2.1, e9.2.2.1, e9.2.2.2.1, e9.2.2.2.2.1, e9.2.2.2.2.2.1, e9.2.2.2.2.2.2.1, e9.2.2.2.2.2.2.2.1, e9.2.2.2.2.2.2.2.2.1, y8.2.2.2.2.1.2.2.2.2.2.2.2.2.2.1, y10.1, y10.2.1, y10.2.2.1, (i64 (y8.1 - y11.1)), y12.1, 0, y10.1, y10.2.1, y10.2.2.1, y10.1, y10.2.1, y10.2.2.1, y8.2.2.2.2.1.2.2.2.2.2.2.2.2.2.2.2.2.2.2.2.2.2.2.2.2.2.2.1, y8.2.2.2.2.1.2.2.2.2.2.2.2.2.2.2.2.2.2.2.2.2.2.2.2.2.2.2.2.1, y13.1, ()), y13.2.1, y13.2.2, (y8.2.2.2.2.2.map dat0)))) | none => none) | none => none) | none => none) | none => none) | none => none) else none) | none => none) | none => none)
abbrev zmc (N : Nat) (x : Int × qL × Int) : Option (zyf × qL × Int × qA) := (zvF N).d x
abbrev zD6 : List Ck := [.str, .str, .str, .str, .int .i64, .int .i64, .int .i64, .int .i64, .int .i64, .vs 19 9, .int .i64, .int .i64, .int .i64, .int .i64, .int .i64, .int .i64, .int .i64, .int .i64, .int .i64, .int .i64, .int .i64, .int .i64, .int .i64, .int .i64, .int .i64]
abbrev zub : Type := ByteArray × ByteArray × ByteArray × ByteArray × Int × Int × Int × Int × Int × Nat × Int × Int × Int × Int × Int × Int × Int × Int × Int × Int × Int × Int × Int × Int × Int × Unit
def zud (e : zub) : List AV := enc zD6 e
def zt5 : Nat -> Keep × Keep := anF [(5, ⟨[0, 1, 6], [], [0], [], [((0, 0), 1)], [(5, 25)], [], [], false, none, []⟩, ⟨[], [], [0], [], [((0, 0), 1)], [(5, 25)], [], [], false, none, []⟩), (18, ⟨[0, 1, 5, 6, 7, 23, 24], [], [0, 7, 19, 1000005], [], [((0, 0), 1)], [], [], [19, 1000005], false, none, []⟩, ⟨[0, 1, 5, 6, 7], [], [0, 7, 19, 1000005], [], [((0, 0), 1)], [], [], [19, 1000005], false, none, []⟩)] [(100015, ([], [((7, 9), 9)])), (100016, ([5], []))]
def zap (N : Nat) : LSpec where
 X := Int × Nat × Int × Int × Int × qL × Int × zub × qA × qA
 Y := (Int × Nat × Int × qL × Int × zub × qA × qA)
 p := λ s => rdS 86 1 [(0, .ptr 0 0), (1, .int .i64), (5, .vs0 1000005 25), (6, .int .i64), (7, .ptr 7 0), (23, .int .i64), (24, .int .i64)] [(0, .cells [.tok 1 6400000000, .int .i64]), (7, .row zD6), (19, .tt), (1000005, .tt)] s λ ⟨_, a0, a1, a2, _, a3, a4, _⟩ ⟨⟨a5, a6, _⟩, a7, a8, a9, _⟩ => (a0, a1, a2, a3, a4, a5, a6, a7, a8, a9)
 st := λ u18 => mkS 86 [(0, (AV.ptr 0 0)), (1, (qI u18.1)), (5, (AV.vs 1000005 0 u18.2.1 25)), (6, (qI u18.2.2.1)), (7, (AV.ptr 7 0)), (23, (qI u18.2.2.2.1)), (24, (qI u18.2.2.2.2.1))] [(0, [(AV.list 1 u18.2.2.2.2.2.1 (some 6400000000)), (qI u18.2.2.2.2.2.2.1)]), (7, (zud u18.2.2.2.2.2.2.2.1)), (19, u18.2.2.2.2.2.2.2.2.1), (1000005, u18.2.2.2.2.2.2.2.2.2)] (zt5 18).1.toks 1
 out := λ y => (.exit 2, mkS 86 [(0, (AV.ptr 0 0)), (1, (qI y.1)), (5, (AV.vs 1000005 0 y.2.1 25)), (6, (qI y.2.2.1)), (7, (AV.ptr 7 0))] [(0, [(AV.list 1 y.2.2.2.1 (some 6400000000)), (qI y.2.2.2.2.1)]), (7, (zud y.2.2.2.2.2.1)), (19, y.2.2.2.2.2.2.1), (1000005, y.2.2.2.2.2.2.2)] (zt5 18).2.toks 1)
 b := λ u18 α kn ke => (match (decide (u18.2.2.2.2.1 < u18.2.2.2.1)) with | true => (if 0 <= u18.2.2.2.2.1 /\ u18.2.2.2.2.1 < (u18.2.2.2.2.2.2.2.1.2.2.2.2.2.2.2.2.2.1 : Int) then (if (((0 + u18.2.2.2.2.1.toNat) * 9) + 4) + 1 <= u18.2.2.2.2.2.2.2.2.1.length then (if (((0 + u18.2.2.2.2.1.toNat) * 9) + 5) + 1 <= (splice u18.2.2.2.2.2.2.2.2.1 (((0 + u18.2.2.2.2.1.toNat) * 9) + 4) [(AV.v (.int .i64 (i64 ((i64 (1000 + (i64 (400 * u18.2.2.1)))) + u18.2.2.2.2.1))))]).length then (if (((0 + u18.2.2.2.2.1.toNat) * 9) + 6) + 1 <= (splice (splice u18.2.2.2.2.2.2.2.2.1 (((0 + u18.2.2.2.2.1.toNat) * 9) + 4) [(AV.v (.int .i64 (i64 ((i64 (1000 + (i64 (400 * u18.2.2.1)))) + u18.2.2.2.2.1))))]) (((0 + u18.2.2.2.2.1.toNat) * 9) + 5) [(AV.v (.int .i64 (i64 ((i64 (1000 + (i64 (400 * u18.2.2.1)))) + u18.2.2.2.2.1))))]).length then (if (((0 + u18.2.2.2.2.1.toNat) * 9) + 7) + 1 <= (splice (splice (splice u18.2.2.2.2.2.2.2.2.1 (((0 + u18.2.2.2.2.1.toNat) * 9) + 4) [(AV.v (.int .i64 (i64 ((i64 (1000 + (i64 (400 * u18.2.2.1)))) + u18.2.2.2.2.1))))]) (((0 + u18.2.2.2.2.1.toNat) * 9) + 5) [(AV.v (.int .i64 (i64 ((i64 (1000 + (i64 (400 * u18.2.2.1)))) + u18.2.2.2.2.1))))]) (((0 + u18.2.2.2.2.1.toNat) * 9) + 6) [(AV.v (.int .i64 (i64 ((i64 ((i64 (1000 + (i64 (400 * u18.2.2.1)))) + u18.2.2.2.2.1)) + 2))))]).length then (kn (u18.1, u18.2.1, u18.2.2.1, u18.2.2.2.1, (i64 (u18.2.2.2.2.1 + 1)), u18.2.2.2.2.2.1, u18.2.2.2.2.2.2.1, u18.2.2.2.2.2.2.2.1, ((splice (splice (splice (splice u18.2.2.2.2.2.2.2.2.1 (((0 + u18.2.2.2.2.1.toNat) * 9) + 4) [(AV.v (.int .i64 (i64 ((i64 (1000 + (i64 (400 * u18.2.2.1)))) + u18.2.2.2.2.1))))]) (((0 + u18.2.2.2.2.1.toNat) * 9) + 5) [(AV.v (.int .i64 (i64 ((i64 (1000 + (i64 (400 * u18.2.2.1)))) + u18.2.2.2.2.1))))]) (((0 + u18.2.2.2.2.1.toNat) * 9) + 6) [(AV.v (.int .i64 (i64 ((i64 ((i64 (1000 + (i64 (400 * u18.2.2.1)))) + u18.2.2.2.2.1)) + 2))))]) (((0 + u18.2.2.2.2.1.toNat) * 9) + 7) [(AV.v (.int .i64 7))]).map dat0), (u18.2.2.2.2.2.2.2.2.2.map dat0))) else none) else none) else none) else none) else none) | false => (ke (u18.1, u18.2.1, u18.2.2.1, u18.2.2.2.2.2.1, u18.2.2.2.2.2.2.1, u18.2.2.2.2.2.2.2.1, (u18.2.2.2.2.2.2.2.2.1.map dat0), (u18.2.2.2.2.2.2.2.2.2.map dat0))))
abbrev zBb (N : Nat) (x : Int × Nat × Int × Int × Int × qL × Int × zub × qA × qA) : Option ((Int × Nat × Int × qL × Int × zub × qA × qA)) := (zap N).L N x
def zaU (N : Nat) : LSpec where
 X := Nat × Int × Int × qL × Int × qA
 Y := (Nat × qL × Int × qA)
 p := λ s => rdS 86 1 [(5, .vs0 1000005 25), (0, .ptr 0 0), (1, .int .i64), (6, .int .i64)] [(0, .cells [.tok 1 6400000000, .int .i64]), (1000005, .tt)] s λ ⟨a0, _, a1, a2, _⟩ ⟨⟨a3, a4, _⟩, a5, _⟩ => (a0, a1, a2, a3, a4, a5)
 st := λ u5 => mkS 86 [(5, (AV.vs 1000005 0 u5.1 25)), (0, (AV.ptr 0 0)), (1, (qI u5.2.1)), (6, (qI u5.2.2.1))] [(0, [(AV.list 1 u5.2.2.2.1 (some 6400000000)), (qI u5.2.2.2.2.1)]), (1000005, u5.2.2.2.2.2)] (zt5 5).1.toks 1
 out := λ y => (.exit 0, mkS 86 [(5, (AV.vs 1000005 0 y.1 25))] [(0, [(AV.list 1 y.2.1 (some 6400000000)), (qI y.2.2.1)]), (1000005, y.2.2.2)] (zt5 5).2.toks 1)
 b := λ u5 α kn ke => (match (decide (u5.2.2.1 < u5.2.1)) with | true => (match zc4 N (3, u5.2.2.2.1, u5.2.2.2.2.1) with | some y6 => (match (y6.1 == 0) with | true => (kn (u5.1, u5.2.1, (i64 (u5.2.2.1 + 1)), y6.2.1, y6.2.2, (u5.2.2.2.2.2.map dat0))) | false => (match zmc N (1, y6.2) with | some y7 => (match zBb N (u5.2.1, u5.1, u5.2.2.1, ((y7.1.2.2.2.2.2.2.2.2.2.1 : Nat) : Int), 0, y7.2.1, y7.2.2.1, y7.1, ((y7.2.2.2.map dat0).map dat0), (u5.2.2.2.2.2.map dat0)) with | some y8 => (match zc4 N (2, y8.2.2.2.1, y8.2.2.2.2.1) with | some y9 => (if 0 <= (if (i64 (((y8.2.2.2.2.2.1.2.2.2.2.2.2.2.2.2.1 : Nat) : Int) - 1)) < y9.1 then (i64 (((y8.2.2.2.2.2.1.2.2.2.2.2.2.2.2.2.1 : Nat) : Int) - 1)) else y9.1) /\ (if (i64 (((y8.2.2.2.2.2.1.2.2.2.2.2.2.2.2.2.1 : Nat) : Int) - 1)) < y9.1 then (i64 (((y8.2.2.2.2.2.1.2.2.2.2.2.2.2.2.2.1 : Nat) : Int) - 1)) else y9.1) <= (y8.2.2.2.2.2.1.2.2.2.2.2.2.2.2.2.1 : Int) then (if 0 <= (0 : Int) /\ (0 : Int) < (((y8.2.2.2.2.2.1.2.2.2.2.2.2.2.2.2.1 - (if (i64 (((y8.2.2.2.2.2.1.2.2.2.2.2.2.2.2.2.1 : Nat) : Int) - 1)) < y9.1 then (i64 (((y8.2.2.2.2.2.1.2.2.2.2.2.2.2.2.2.1 : Nat) : Int) - 1)) else y9.1).toNat) : Nat) : Int) then (match Jy (y8.2.2.2.2.2.2.1.drop (((0 + (if (i64 (((y8.2.2.2.2.2.1.2.2.2.2.2.2.2.2.2.1 : Nat) : Int) - 1)) < y9.1 then (i64 (((y8.2.2.2.2.2.1.2.2.2.2.2.2.2.2.2.1 : Nat) : Int) - 1)) else y9.1).toNat) + (0 : Int).toNat) * 9)) with | some e10 => (if (y8.2.2.2.2.2.1.2.2.2.2.2.2.2.2.2.1 - (if (i64 (((y8.2.2.2.2.2.1.2.2.2.2.2.2.2.2.2.1 : Nat) : Int) - 1)) < y9.1 then (i64 (((y8.2.2.2.2.2.1.2.2.2.2.2.2.2.2.2.1 : Nat) : Int) - 1)) else y9.1).toNat) * 9 <= (J5 (0 + (if (i64 (((y8.2.2.2.2.2.1.2.2.2.2.2.2.2.2.2.1 : Nat) : Int) - 1)) < y9.1 then (i64 (((y8.2.2.2.2.2.1.2.2.2.2.2.2.2.2.2.1 : Nat) : Int) - 1)) else y9.1).toNat) 9 y8.2.2.2.2.2.2.1).length then (if y8.2.1 * 25 <= y8.2.2.2.2.2.2.2.length /\ (y8.2.1 + [(zB (e10.1, e10.2.1, e10.2.2.1, e10.2.2.2.1, e10.2.2.2.2.1, e10.2.2.2.2.2.1, e10.2.2.2.2.2.2.1, e10.2.2.2.2.2.2.2.1, e10.2.2.2.2.2.2.2.2.1, (zK ((J5 (0 + (if (i64 (((y8.2.2.2.2.2.1.2.2.2.2.2.2.2.2.2.1 : Nat) : Int) - 1)) < y9.1 then (i64 (((y8.2.2.2.2.2.1.2.2.2.2.2.2.2.2.2.1 : Nat) : Int) - 1)) else y9.1).toNat) 9 y8.2.2.2.2.2.2.1).take ((y8.2.2.2.2.2.1.2.2.2.2.2.2.2.2.2.1 - (if (i64 (((y8.2.2.2.2.2.1.2.2.2.2.2.2.2.2.2.1 : Nat) : Int) - 1)) < y9.1 then (i64 (((y8.2.2.2.2.2.1.2.2.2.2.2.2.2.2.2.1 : Nat) : Int) - 1)) else y9.1).toNat) * 9)) 9 (y8.2.2.2.2.2.1.2.2.2.2.2.2.2.2.2.1 - (if (i64 (((y8.2.2.2.2.2.1.2.2.2.2.2.2.2.2.2.1 : Nat) : Int) - 1)) < y9.1 then (i64 (((y8.2.2.2.2.2.1.2.2.2.2.2.2.2.2.2.1 : Nat) : Int) - 1)) else y9.1).toNat)), y8.2.2.2.2.2.1.2.2.2.2.2.2.2.2.2.2))].length) * 248 <= zg then (kn ((y8.2.1 + [(zB (e10.1, e10.2.1, e10.2.2.1, e10.2.2.2.1, e10.2.2.2.2.1, e10.2.2.2.2.2.1, e10.2.2.2.2.2.2.1, e10.2.2.2.2.2.2.2.1, e10.2.2.2.2.2.2.2.2.1, (zK ((J5 (0 + (if (i64 (((y8.2.2.2.2.2.1.2.2.2.2.2.2.2.2.2.1 : Nat) : Int) - 1)) < y9.1 then (i64 (((y8.2.2.2.2.2.1.2.2.2.2.2.2.2.2.2.1 : Nat) : Int) - 1)) else y9.1).toNat) 9 y8.2.2.2.2.2.2.1).take ((y8.2.2.2.2.2.1.2.2.2.2.2.2.2.2.2.1 - (if (i64 (((y8.2.2.2.2.2.1.2.2.2.2.2.2.2.2.2.1 : Nat) : Int) - 1)) < y9.1 then (i64 (((y8.2.2.2.2.2.1.2.2.2.2.2.2.2.2.2.1 : Nat) : Int) - 1)) else y9.1).toNat) * 9)) 9 (y8.2.2.2.2.2.1.2.2.2.2.2.2.2.2.2.1 - (if (i64 (((y8.2.2.2.2.2.1.2.2.2.2.2.2.2.2.2.1 : Nat) : Int) - 1)) < y9.1 then (i64 (((y8.2.2.2.2.2.1.2.2.2.2.2.2.2.2.2.1 : Nat) : Int) - 1)) else y9.1).toNat)), y8.2.2.2.2.2.1.2.2.2.2.2.2.2.2.2.2))].length), y8.1, (i64 (y8.2.2.1 + 1)), y9.2.1, y9.2.2, ((y8.2.2.2.2.2.2.2.take (y8.2.1 * 25) ++ [(zB (e10.1, e10.2.1, e10.2.2.1, e10.2.2.2.1, e10.2.2.2.2.1, e10.2.2.2.2.2.1, e10.2.2.2.2.2.2.1, e10.2.2.2.2.2.2.2.1, e10.2.2.2.2.2.2.2.2.1, (zK ((J5 (0 + (if (i64 (((y8.2.2.2.2.2.1.2.2.2.2.2.2.2.2.2.1 : Nat) : Int) - 1)) < y9.1 then (i64 (((y8.2.2.2.2.2.1.2.2.2.2.2.2.2.2.2.1 : Nat) : Int) - 1)) else y9.1).toNat) 9 y8.2.2.2.2.2.2.1).take ((y8.2.2.2.2.2.1.2.2.2.2.2.2.2.2.2.1 - (if (i64 (((y8.2.2.2.2.2.1.2.2.2.2.2.2.2.2.2.1 : Nat) : Int) - 1)) < y9.1 then (i64 (((y8.2.2.2.2.2.1.2.2.2.2.2.2.2.2.2.1 : Nat) : Int) - 1)) else y9.1).toNat) * 9)) 9 (y8.2.2.2.2.2.1.2.2.2.2.2.2.2.2.2.1 - (if (i64 (((y8.2.2.2.2.2.1.2.2.2.2.2.2.2.2.2.1 : Nat) : Int) - 1)) < y9.1 then (i64 (((y8.2.2.2.2.2.1.2.2.2.2.2.2.2.2.2.1 : Nat) : Int) - 1)) else y9.1).toNat)), y8.2.2.2.2.2.1.2.2.2.2.2.2.2.2.2.2))].flatten).map dat0))) else none) else none) | none => none) else none) else none) | none => none) | none => none) | none => none)) | none => none) | false => (ke (u5.1, u5.2.2.2.1, u5.2.2.2.2.1, (u5.2.2.2.2.2.map dat0))))
abbrev zBc (N : Nat) (x : Nat × Int × Int × qL × Int × qA) : Option ((Nat × qL × Int × qA)) := (zaU N).L N x
def zEu (N : Nat) : FSpec where
 X := Int × qL × Int
 Y := qL × qL × Int
 ash := [[none], [none]]
 bsh := [[some 2000001, none]]
 S := ⟨[[some 2000025]], [[some 2000001, none]], [], [6400000000], []⟩
 pat := λ a b => rdA [.ptr 0 0, .int .i64] [.cells [.tok 1 6400000000, .int .i64]] a b λ ⟨_, a0, _⟩ ⟨⟨a1, a2, _⟩, _⟩ => (a0, a1, a2)
 args := λ x => [(AV.ptr 0 0), (AV.v (.int .i64 x.1))]
 bs := λ x => [[(AV.list 1 x.2.1 (some 6400000000)), (AV.v (.int .i64 x.2.2))]]
 ret := λ y => ⟨(AV.list 25 y.1 (some 2560000000)), [[(AV.list 1 y.2.1 (some 6400000000)), (AV.v (.int .i64 y.2.2))]], none, [6400000000], [6400000000, 2560000000], [], none⟩
 t := λ x α k => (match zBc N (0, x.1, 0, x.2.1, x.2.2, ([] : List AV)) with | some y11 => (if y11.1 * 25 <= y11.2.2.2.length then (k ((zK (y11.2.2.2.take (y11.1 * 25)) 25 y11.1), y11.2.1, y11.2.2.1)) else none) | none => none)
abbrev zwK (N : Nat) (x : Int × qL × Int) : Option (qL × qL × Int) := (zEu N).d x
def zxk (N : Nat) : FSpec where
 X := qL × qL × Int
 Y := ByteArray × qL × Int
 ash := [[none], [some 1]]
 bsh := [[some 2000001, none]]
 S := ⟨[[none]], [[some 2000001, none]], [], [6400000000], []⟩
 pat := λ a b => rdA [.ptr 0 0, .lst 1] [.cells [.tok 1 6400000000, .int .i64]] a b λ ⟨_, a0, _⟩ ⟨⟨a1, a2, _⟩, _⟩ => (a0, a1, a2)
 args := λ x => [(AV.ptr 0 0), (AV.list 1 x.1 none)]
 bs := λ x => [[(AV.list 1 x.2.1 (some 6400000000)), (AV.v (.int .i64 x.2.2))]]
 ret := λ y => ⟨(AV.v (.string y.1)), [[(AV.list 1 y.2.1 (some 6400000000)), (AV.v (.int .i64 y.2.2))]], none, [6400000000], [6400000000], [], none⟩
 t := λ x α k => (match zc4 N ((x.1.length : Int), x.2) with | some y1 => (if 0 <= y1.1 then (match x.1[y1.1.toNat]? with | some c2 => (match c2[0]? with | some x3 => (match x3 with | .v (.string s4) => (k (s4, y1.2)) | _ => none) | none => none) | none => none) else none) | none => none)
abbrev zho (N : Nat) (x : qL × qL × Int) : Option (ByteArray × qL × Int) := (zxk N).d x
def zvJ : Nat -> Keep × Keep := anL []
def zCH (N : Nat) : GamK := gam (P := qP) [zrW N]
def ze2 (N : Nat) : FSpec where
 X := qL × Int × ByteArray × RT0 × Int
 Y := qL × Int
 ash := [[some 1], [none], [none], [none, none, none, none, none, none, none, none, none, some 9, none, none, none, none, none, none, none, none, none, none, none, none, none, none, none], [none]]
 S := ⟨[[some 1], [none]], [], [], [], []⟩
 pat := λ a b => zl a λ v1 c2 => jA v1 λ c3 => zl c3 λ c4 c5 => jg 1 c4 λ a0 => zV c5 <| zl c2 λ v6 c7 => Jo .i64 v6 λ a1 => zl c7 λ v8 c9 => zu1 v8 λ a2 => zl c9 λ v10 c11 => zw3 RK0 v10 λ a3 => zl c11 λ v12 c13 => Jo .i64 v12 λ a4 => zV c13 <| zV b <| some (a0, a1, a2, a3, a4)
 args := λ x => [(AV.agg [(AV.list 1 x.1 none)]), (AV.v (.int .i64 x.2.1)), (AV.v (.string x.2.2.1)), (AV.agg (zB x.2.2.2.1)), (AV.v (.int .i64 x.2.2.2.2))]
 ret := λ y => ⟨(AV.tup [(AV.agg [(AV.list 1 y.1 none)]), (AV.v (.int .i64 y.2))]), [], none, [], [], [], none⟩
 t := λ x α k => (match zdZ N (x.1, x.2.1, (3, x.2.2.2.2, x.2.2.1, 0, x.2.2.2.1.1, x.2.2.2.1.2.1, x.2.2.2.1.2.2.1, x.2.2.2.1.2.2.2.1, x.2.2.2.1.2.2.2.2.1, x.2.2.2.1.2.2.2.2.2.1, x.2.2.2.1.2.2.2.2.2.2.1, x.2.2.2.1.2.2.2.2.2.2.2.1, x.2.2.2.1.2.2.2.2.2.2.2.2.1, x.2.2.2.1.2.2.2.2.2.2.2.2.2.1, x.2.2.2.1.2.2.2.2.2.2.2.2.2.2.1, x.2.2.2.1.2.2.2.2.2.2.2.2.2.2.2.1, x.2.2.2.1.2.2.2.2.2.2.2.2.2.2.2.2.1, x.2.2.2.1.2.2.2.2.2.2.2.2.2.2.2.2.2.1, x.2.2.2.1.2.2.2.2.2.2.2.2.2.2.2.2.2.2.1, x.2.2.2.1.2.2.2.2.2.2.2.2.2.2.2.2.2.2.2.1, x.2.2.2.1.2.2.2.2.2.2.2.2.2.2.2.2.2.2.2.2.1, x.2.2.2.1.2.2.2.2.2.2.2.2.2.2.2.2.2.2.2.2.2.1, x.2.2.2.1.2.2.2.2.2.2.2.2.2.2.2.2.2.2.2.2.2.2.1, x.2.2.2.1.2.2.2.2.2.2.2.2.2.2.2.2.2.2.2.2.2.2.2.1, x.2.2.2.1.2.2.2.2.2.2.2.2.2.2.2.2.2.2.2.2.2.2.2.2.1, x.2.2.2.1.2.2.2.2.2.2.2.2.2.2.2.2.2.2.2.2.2.2.2.2.2.1, x.2.2.2.1.2.2.2.2.2.2.2.2.2.2.2.2.2.2.2.2.2.2.2.2.2.2.1, x.2.2.2.1.2.2.2.2.2.2.2.2.2.2.2.2.2.2.2.2.2.2.2.2.2.2.2.1, x.2.2.2.1.2.2.2.2.2.2.2.2.2.2.2.2.2.2.2.2.2.2.2.2.2.2.2.2.1, ())) with | some y1 => (k y1) | none => none)
abbrev zxi (N : Nat) (x : qL × Int × ByteArray × RT0 × Int) : Option (qL × Int) := (ze2 N).d x
theorem zqO (N : Nat) : Zd (ze2 N).t := by
 intro x α β k k' r r' h h1
 revert h
 dsimp only [ze2]
 (repeat' (first | (with_reducible refine ze ?_ ?_) | split)) <;> intro h <;> first | exact h1 _ h | cases h
theorem zqP (N : Nat) : Zg (zn qP) (zCH N) zvJ (lam N []) Tryd.f26 (ze2 N) := λ x => by kernel_rfl
theorem zxj (N : Nat) (a : List AV) (b : qL) (x : (ze2 N).X) (h : (ze2 N).pat a b = some x) : a = (ze2 N).args x /\ b = (ze2 N).bs x := by
 obtain ⟨v1, c2, rfl, g0⟩ := zd (show zl _ _ = some x from h)
 obtain ⟨c3, rfl, g1⟩ := zW g0; clear g0
 obtain ⟨c4, c5, rfl, g2⟩ := zd g1; clear g1
 obtain ⟨a0, rfl, g3⟩ := zr g2; clear g2
 obtain ⟨rfl, g4⟩ := zi g3; clear g3
 obtain ⟨v6, c7, rfl, g5⟩ := zd g4; clear g4
 obtain ⟨a1, rfl, g6⟩ := zJ g5; clear g5
 obtain ⟨v8, c9, rfl, g7⟩ := zd g6; clear g6
 obtain ⟨a2, rfl, g8⟩ := zbs g7; clear g7
 obtain ⟨v10, c11, rfl, g9⟩ := zd g8; clear g8
 obtain ⟨a3, rfl, g10⟩ := zdD g9; clear g9
 obtain ⟨v12, c13, rfl, g11⟩ := zd g10; clear g10
 obtain ⟨a4, rfl, g12⟩ := zJ g11; clear g11
 obtain ⟨rfl, g13⟩ := zi g12; clear g12
 obtain ⟨rfl, g14⟩ := zi g13; clear g13
 clear h
 cases g14
 exact ⟨rfl, rfl⟩
def zCG (N : Nat) : Ent qP := zA (zc qP) (zh _) zk 26 Tryd.f26 Tryd.func26 rfl zvJ (lam N []) (zm (l := []) an (by kernel_rfl)) (ze2 N) (λ _ => ⟨rfl, rfl⟩) (zqP N) (zxj N) (zqO N)
def zvK : Nat -> Keep × Keep := anL []
def zCJ (N : Nat) : GamK := gam (P := qP) [zrW N]
def ze3 (N : Nat) : FSpec where
 X := qL × Int × ByteArray × Int
 Y := qL × Int
 ash := [[some 1], [none], [none], [none]]
 S := ⟨[[some 1], [none]], [], [], [], []⟩
 pat := λ a b => zl a λ v1 c2 => jA v1 λ c3 => zl c3 λ c4 c5 => jg 1 c4 λ a0 => zV c5 <| zl c2 λ v6 c7 => Jo .i64 v6 λ a1 => zl c7 λ v8 c9 => zu1 v8 λ a2 => zl c9 λ v10 c11 => Jo .i64 v10 λ a3 => zV c11 <| zV b <| some (a0, a1, a2, a3)
 args := λ x => [(AV.agg [(AV.list 1 x.1 none)]), (AV.v (.int .i64 x.2.1)), (AV.v (.string x.2.2.1)), (AV.v (.int .i64 x.2.2.2))]
 ret := λ y => ⟨(AV.tup [(AV.agg [(AV.list 1 y.1 none)]), (AV.v (.int .i64 y.2))]), [], none, [], [], [], none⟩
 t := λ x α k => (match zdZ N (x.1, x.2.1, (4, x.2.2.2, x.2.2.1, 0, (⟨#[]⟩ : ByteArray), (⟨#[]⟩ : ByteArray), (⟨#[]⟩ : ByteArray), (⟨#[]⟩ : ByteArray), 0, 0, 0, 0, 0, ([] : qL), 0, 0, 0, 0, 0, 0, 0, 0, 0, 0, 0, 0, 0, 0, 0, ())) with | some y1 => (k y1) | none => none)
abbrev zxl (N : Nat) (x : qL × Int × ByteArray × Int) : Option (qL × Int) := (ze3 N).d x
theorem zqQ (N : Nat) : Zd (ze3 N).t := by
 intro x α β k k' r r' h h1
 revert h
 dsimp only [ze3]
 (repeat' (first | (with_reducible refine ze ?_ ?_) | split)) <;> intro h <;> first | exact h1 _ h | cases h
theorem zqR (N : Nat) : Zg (zn qP) (zCJ N) zvK (lam N []) Tryd.f28 (ze3 N) := λ x => by kernel_rfl
theorem zxm (N : Nat) (a : List AV) (b : qL) (x : (ze3 N).X) (h : (ze3 N).pat a b = some x) : a = (ze3 N).args x /\ b = (ze3 N).bs x := by
 obtain ⟨v1, c2, rfl, g0⟩ := zd (show zl _ _ = some x from h)
 obtain ⟨c3, rfl, g1⟩ := zW g0; clear g0
 obtain ⟨c4, c5, rfl, g2⟩ := zd g1; clear g1
 obtain ⟨a0, rfl, g3⟩ := zr g2; clear g2
 obtain ⟨rfl, g4⟩ := zi g3; clear g3
 obtain ⟨v6, c7, rfl, g5⟩ := zd g4; clear g4
 obtain ⟨a1, rfl, g6⟩ := zJ g5; clear g5
 obtain ⟨v8, c9, rfl, g7⟩ := zd g6; clear g6
 obtain ⟨a2, rfl, g8⟩ := zbs g7; clear g7
 obtain ⟨v10, c11, rfl, g9⟩ := zd g8; clear g8
 obtain ⟨a3, rfl, g10⟩ := zJ g9; clear g9
 obtain ⟨rfl, g11⟩ := zi g10; clear g10
 obtain ⟨rfl, g12⟩ := zi g11; clear g11
 clear h
 cases g12
 exact ⟨rfl, rfl⟩
def zCI (N : Nat) : Ent qP := zA (zc qP) (zh _) zk 28 Tryd.f28 Tryd.func28 rfl zvK (lam N []) (zm (l := []) an (by kernel_rfl)) (ze3 N) (λ _ => ⟨rfl, rfl⟩) (zqR N) (zxm N) (zqQ N)
def zvL : Nat -> Keep × Keep := anL []
def zCL (N : Nat) : GamK := gam (P := qP) [zrW N]
def ze4 (N : Nat) : FSpec where
 X := qL × Int × Int × ByteArray × Int
 Y := qL × Int
 ash := [[some 1], [none], [none], [none], [none]]
 S := ⟨[[some 1], [none]], [], [], [], []⟩
 pat := λ a b => zl a λ v1 c2 => jA v1 λ c3 => zl c3 λ c4 c5 => jg 1 c4 λ a0 => zV c5 <| zl c2 λ v6 c7 => Jo .i64 v6 λ a1 => zl c7 λ v8 c9 => Jo .i64 v8 λ a2 => zl c9 λ v10 c11 => zu1 v10 λ a3 => zl c11 λ v12 c13 => Jo .i64 v12 λ a4 => zV c13 <| zV b <| some (a0, a1, a2, a3, a4)
 args := λ x => [(AV.agg [(AV.list 1 x.1 none)]), (AV.v (.int .i64 x.2.1)), (AV.v (.int .i64 x.2.2.1)), (AV.v (.string x.2.2.2.1)), (AV.v (.int .i64 x.2.2.2.2))]
 ret := λ y => ⟨(AV.tup [(AV.agg [(AV.list 1 y.1 none)]), (AV.v (.int .i64 y.2))]), [], none, [], [], [], none⟩
 t := λ x α k => (match zdZ N (x.1, x.2.1, (5, x.2.2.2.2, x.2.2.2.1, x.2.2.1, (⟨#[]⟩ : ByteArray), (⟨#[]⟩ : ByteArray), (⟨#[]⟩ : ByteArray), (⟨#[]⟩ : ByteArray), 0, 0, 0, 0, 0, ([] : qL), 0, 0, 0, 0, 0, 0, 0, 0, 0, 0, 0, 0, 0, 0, 0, ())) with | some y1 => (k y1) | none => none)
abbrev zxn (N : Nat) (x : qL × Int × Int × ByteArray × Int) : Option (qL × Int) := (ze4 N).d x
theorem zqS (N : Nat) : Zd (ze4 N).t := by
 intro x α β k k' r r' h h1
 revert h
 dsimp only [ze4]
 (repeat' (first | (with_reducible refine ze ?_ ?_) | split)) <;> intro h <;> first | exact h1 _ h | cases h
theorem zqT (N : Nat) : Zg (zn qP) (zCL N) zvL (lam N []) Tryd.f29 (ze4 N) := λ x => by kernel_rfl
theorem zxo (N : Nat) (a : List AV) (b : qL) (x : (ze4 N).X) (h : (ze4 N).pat a b = some x) : a = (ze4 N).args x /\ b = (ze4 N).bs x := by
 obtain ⟨v1, c2, rfl, g0⟩ := zd (show zl _ _ = some x from h)
 obtain ⟨c3, rfl, g1⟩ := zW g0; clear g0
 obtain ⟨c4, c5, rfl, g2⟩ := zd g1; clear g1
 obtain ⟨a0, rfl, g3⟩ := zr g2; clear g2
 obtain ⟨rfl, g4⟩ := zi g3; clear g3
 obtain ⟨v6, c7, rfl, g5⟩ := zd g4; clear g4
 obtain ⟨a1, rfl, g6⟩ := zJ g5; clear g5
 obtain ⟨v8, c9, rfl, g7⟩ := zd g6; clear g6
 obtain ⟨a2, rfl, g8⟩ := zJ g7; clear g7
 obtain ⟨v10, c11, rfl, g9⟩ := zd g8; clear g8
 obtain ⟨a3, rfl, g10⟩ := zbs g9; clear g9
 obtain ⟨v12, c13, rfl, g11⟩ := zd g10; clear g10
 obtain ⟨a4, rfl, g12⟩ := zJ g11; clear g11
 obtain ⟨rfl, g13⟩ := zi g12; clear g12
 obtain ⟨rfl, g14⟩ := zi g13; clear g13
 clear h
 cases g14
 exact ⟨rfl, rfl⟩
def zCK (N : Nat) : Ent qP := zA (zc qP) (zh _) zk 29 Tryd.f29 Tryd.func29 rfl zvL (lam N []) (zm (l := []) an (by kernel_rfl)) (ze4 N) (λ _ => ⟨rfl, rfl⟩) (zqT N) (zxo N) (zqS N)
def zvM : Nat -> Keep × Keep := anL []
def zCN (N : Nat) : GamK := gam (P := qP) [zrW N]
def ze5 (N : Nat) : FSpec where
 X := qL × Int × ByteArray × Int
 Y := qL × Int
 ash := [[some 1], [none], [none], [none]]
 S := ⟨[[some 1], [none]], [], [], [], []⟩
 pat := λ a b => zl a λ v1 c2 => jA v1 λ c3 => zl c3 λ c4 c5 => jg 1 c4 λ a0 => zV c5 <| zl c2 λ v6 c7 => Jo .i64 v6 λ a1 => zl c7 λ v8 c9 => zu1 v8 λ a2 => zl c9 λ v10 c11 => Jo .i64 v10 λ a3 => zV c11 <| zV b <| some (a0, a1, a2, a3)
 args := λ x => [(AV.agg [(AV.list 1 x.1 none)]), (AV.v (.int .i64 x.2.1)), (AV.v (.string x.2.2.1)), (AV.v (.int .i64 x.2.2.2))]
 ret := λ y => ⟨(AV.tup [(AV.agg [(AV.list 1 y.1 none)]), (AV.v (.int .i64 y.2))]), [], none, [], [], [], none⟩
 t := λ x α k => (match zdZ N (x.1, x.2.1, (6, x.2.2.2, x.2.2.1, 0, (⟨#[]⟩ : ByteArray), (⟨#[]⟩ : ByteArray), (⟨#[]⟩ : ByteArray), (⟨#[]⟩ : ByteArray), 0, 0, 0, 0, 0, ([] : qL), 0, 0, 0, 0, 0, 0, 0, 0, 0, 0, 0, 0, 0, 0, 0, ())) with | some y1 => (k y1) | none => none)
abbrev zxp (N : Nat) (x : qL × Int × ByteArray × Int) : Option (qL × Int) := (ze5 N).d x
theorem zqU (N : Nat) : Zd (ze5 N).t := by
 intro x α β k k' r r' h h1
 revert h
 dsimp only [ze5]
 (repeat' (first | (with_reducible refine ze ?_ ?_) | split)) <;> intro h <;> first | exact h1 _ h | cases h
theorem zqV (N : Nat) : Zg (zn qP) (zCN N) zvM (lam N []) Tryd.f30 (ze5 N) := λ x => by kernel_rfl
theorem zxq (N : Nat) (a : List AV) (b : qL) (x : (ze5 N).X) (h : (ze5 N).pat a b = some x) : a = (ze5 N).args x /\ b = (ze5 N).bs x := by
 obtain ⟨v1, c2, rfl, g0⟩ := zd (show zl _ _ = some x from h)
 obtain ⟨c3, rfl, g1⟩ := zW g0; clear g0
 obtain ⟨c4, c5, rfl, g2⟩ := zd g1; clear g1
 obtain ⟨a0, rfl, g3⟩ := zr g2; clear g2
 obtain ⟨rfl, g4⟩ := zi g3; clear g3
 obtain ⟨v6, c7, rfl, g5⟩ := zd g4; clear g4
 obtain ⟨a1, rfl, g6⟩ := zJ g5; clear g5
 obtain ⟨v8, c9, rfl, g7⟩ := zd g6; clear g6
 obtain ⟨a2, rfl, g8⟩ := zbs g7; clear g7
 obtain ⟨v10, c11, rfl, g9⟩ := zd g8; clear g8
 obtain ⟨a3, rfl, g10⟩ := zJ g9; clear g9
 obtain ⟨rfl, g11⟩ := zi g10; clear g10
 obtain ⟨rfl, g12⟩ := zi g11; clear g11
 clear h
 cases g12
 exact ⟨rfl, rfl⟩
def zCM (N : Nat) : Ent qP := zA (zc qP) (zh _) zk 30 Tryd.f30 Tryd.func30 rfl zvM (lam N []) (zm (l := []) an (by kernel_rfl)) (ze5 N) (λ _ => ⟨rfl, rfl⟩) (zqV N) (zxq N) (zqU N)
def zAL : Nat -> Keep × Keep := anL [(6, ⟨[0, 1, 4, 6, 7, 8], [], [0, 4, 6], [], [((0, 0), 1), ((4, 0), 1)], [], [], [], false, none, [((6, 0), 1)]⟩, ⟨[4, 6, 7], [], [0, 4, 6], [], [((0, 0), 1), ((4, 0), 1)], [], [], [], false, none, [((6, 0), 1)]⟩)]
def zaD (N : Nat) : LSpec where
 X := Int × Int × Int × qL × Int × qL × qL
 Y := (Int × qL × Int × qL × qL)
 p := λ s => rdS 111 1 [(0, .ptr 0 0), (1, .int .i64), (4, .ptr 4 0), (6, .ptr 6 0), (7, .int .i64), (8, .int .i64)] [(0, .cells [.tok 1 6400000000, .int .i64]), (4, .cells [.tok 1 6401048576]), (6, .cells [.lst 1])] s λ ⟨_, a0, _, _, a1, a2, _⟩ ⟨⟨a3, a4, _⟩, ⟨a5, _⟩, ⟨a6, _⟩, _⟩ => (a0, a1, a2, a3, a4, a5, a6)
 st := λ u6 => mkS 111 [(0, (AV.ptr 0 0)), (1, (qI u6.1)), (4, (AV.ptr 4 0)), (6, (AV.ptr 6 0)), (7, (qI u6.2.1)), (8, (qI u6.2.2.1))] [(0, [(AV.list 1 u6.2.2.2.1 (some 6400000000)), (qI u6.2.2.2.2.1)]), (4, [(AV.list 1 u6.2.2.2.2.2.1 (some 6401048576))]), (6, [(AV.list 1 u6.2.2.2.2.2.2 none)])] (zAL 6).1.toks 1
 out := λ y => (.exit 0, mkS 111 [(4, (AV.ptr 4 0)), (6, (AV.ptr 6 0)), (7, (qI y.1))] [(0, [(AV.list 1 y.2.1 (some 6400000000)), (qI y.2.2.1)]), (4, [(AV.list 1 y.2.2.2.1 (some 6401048576))]), (6, [(AV.list 1 y.2.2.2.2 none)])] (zAL 6).2.toks 1)
 b := λ u6 α kn ke => (match (decide (u6.2.2.1 < u6.1)) with | true => (match zc4 N (50, u6.2.2.2.1, u6.2.2.2.2.1) with | some y19 => (match zc4 N ((if (u6.2.2.2.2.2.2.length : Int) > 1 then (u6.2.2.2.2.2.2.length : Int) else 1), y19.2) with | some y20 => (match zc4 N (8, y20.2) with | some y21 => (match (y21.1 == 0) with | true => (match zwK N (4, y21.2) with | some y22 => (match (decide ((y22.1.length : Int) > 0)) with | true => (match zho N ([[(AV.v (.string (⟨#[97, 110, 110]⟩ : ByteArray)))], [(AV.v (.string (⟨#[98, 111, 98]⟩ : ByteArray)))]], y22.2) with | some y23 => (match zc4 N ((y22.1.length : Int), y23.2) with | some y24 => (if 0 <= y24.1 then (match y22.1[y24.1.toNat]? with | some c25 => (match zhD c25 with | some e26 => (match zxi N (u6.2.2.2.2.2.2, y20.1, y23.1, e26, (i64 (u6.2.1 + y19.1))) with | some y27 => (match (y27.2 == 0) with | true => (kn (u6.1, (i64 (u6.2.1 + y19.1)), (i64 (u6.2.2.1 + 1)), y24.2.1, y24.2.2, u6.2.2.2.2.2.1, y27.1)) | false => (kn (u6.1, (i64 (u6.2.1 + y19.1)), (i64 (u6.2.2.1 + 1)), y24.2.1, y24.2.2, u6.2.2.2.2.2))) | none => none) | none => none) | none => none) else none) | none => none) | none => none) | false => (match (0 == 0) with | true => (kn (u6.1, (i64 (u6.2.1 + y19.1)), (i64 (u6.2.2.1 + 1)), y22.2.1, y22.2.2, u6.2.2.2.2.2)) | false => (kn (u6.1, (i64 (u6.2.1 + y19.1)), (i64 (u6.2.2.1 + 1)), y22.2.1, y22.2.2, u6.2.2.2.2.2)))) | none => none) | false => (match (y21.1 == 1) with | true => (match zho N ([[(AV.v (.string (⟨#[97, 110, 110]⟩ : ByteArray)))], [(AV.v (.string (⟨#[98, 111, 98]⟩ : ByteArray)))]], y21.2) with | some y28 => (match zxl N (u6.2.2.2.2.2.2, y20.1, y28.1, (i64 (u6.2.1 + y19.1))) with | some y29 => (match (y29.2 == 0) with | true => (kn (u6.1, (i64 (u6.2.1 + y19.1)), (i64 (u6.2.2.1 + 1)), y28.2.1, y28.2.2, u6.2.2.2.2.2.1, y29.1)) | false => (kn (u6.1, (i64 (u6.2.1 + y19.1)), (i64 (u6.2.2.1 + 1)), y28.2.1, y28.2.2, u6.2.2.2.2.2))) | none => none) | none => none) | false => (match (y21.1 == 2) with | true => (match zc4 N ((if (u6.2.2.2.2.2.2.length : Int) > 1 then (u6.2.2.2.2.2.2.length : Int) else 1), y21.2) with | some y30 => (match zho N ([[(AV.v (.string (⟨#[97, 110, 110]⟩ : ByteArray)))], [(AV.v (.string (⟨#[98, 111, 98]⟩ : ByteArray)))]], y30.2) with | some y31 => (match zxn N (u6.2.2.2.2.2.2, y20.1, y30.1, y31.1, (i64 (u6.2.1 + y19.1))) with | some y32 => (match (y32.2 == 0) with | true => (kn (u6.1, (i64 (u6.2.1 + y19.1)), (i64 (u6.2.2.1 + 1)), y31.2.1, y31.2.2, u6.2.2.2.2.2.1, y32.1)) | false => (kn (u6.1, (i64 (u6.2.1 + y19.1)), (i64 (u6.2.2.1 + 1)), y31.2.1, y31.2.2, u6.2.2.2.2.2))) | none => none) | none => none) | none => none) | false => (match (y21.1 == 3) with | true => (match zho N ([[(AV.v (.string (⟨#[97, 110, 110]⟩ : ByteArray)))], [(AV.v (.string (⟨#[98, 111, 98]⟩ : ByteArray)))]], y21.2) with | some y33 => (match zxp N (u6.2.2.2.2.2.2, y20.1, y33.1, (i64 (u6.2.1 + y19.1))) with | some y34 => (match (y34.2 == 0) with | true => (kn (u6.1, (i64 (u6.2.1 + y19.1)), (i64 (u6.2.2.1 + 1)), y33.2.1, y33.2.2, u6.2.2.2.2.2.1, y34.1)) | false => (kn (u6.1, (i64 (u6.2.1 + y19.1)), (i64 (u6.2.2.1 + 1)), y33.2.1, y33.2.2, u6.2.2.2.2.2))) | none => none) | none => none) | false => (match zwK N (4, y21.2) with | some y35 => (match zqW N (u6.2.2.2.2.2.2, y35.1, (i64 (u6.2.1 + y19.1))) with | some y36 => (match (y36.2.2 == 0) with | true => (kn (u6.1, (i64 (u6.2.1 + y19.1)), (i64 (u6.2.2.1 + 1)), y35.2.1, y35.2.2, u6.2.2.2.2.2.1, y36.1)) | false => (kn (u6.1, (i64 (u6.2.1 + y19.1)), (i64 (u6.2.2.1 + 1)), y35.2.1, y35.2.2, u6.2.2.2.2.2))) | none => none) | none => none))))) | none => none) | none => none) | none => none) | false => (ke (u6.2.1, u6.2.2.2)))
abbrev zAM (N : Nat) (x : Int × Int × Int × qL × Int × qL × qL) : Option ((Int × qL × Int × qL × qL)) := (zaD N).L N x
def zEs (N : Nat) : FSpec where
 X := Int × qL × Int
 Y := qL × Int × qL × Int
 ash := [[none], [none]]
 bsh := [[some 2000001, none]]
 S := ⟨[[some 1], [none]], [[some 2000001, none]], [], [6400000000], []⟩
 pat := λ a b => rdA [.ptr 0 0, .int .i64] [.cells [.tok 1 6400000000, .int .i64]] a b λ ⟨_, a0, _⟩ ⟨⟨a1, a2, _⟩, _⟩ => (a0, a1, a2)
 args := λ x => [(AV.ptr 0 0), (AV.v (.int .i64 x.1))]
 bs := λ x => [[(AV.list 1 x.2.1 (some 6400000000)), (AV.v (.int .i64 x.2.2))]]
 ret := λ y => ⟨(AV.tup [(AV.agg [(AV.list 1 y.1 none)]), (AV.v (.int .i64 y.2.1))]), [[(AV.list 1 y.2.2.1 (some 6400000000)), (AV.v (.int .i64 y.2.2.2))]], none, [6400000000], [6400000000], [], none⟩
 t := λ x α k => (match zAM N (x.1, 100, 0, x.2.1, x.2.2, ([] : qL), ([] : qL)) with | some y37 => (k (y37.2.2.2.2, y37.1, y37.2.1, y37.2.2.1)) | none => none)
abbrev zDC (N : Nat) (x : Int × qL × Int) : Option (qL × Int × qL × Int) := (zEs N).d x
def zvV : Nat -> Keep × Keep := anL []
def zCW (N : Nat) : GamK := gam (P := qP) [zz8 N]
def zmE (N : Nat) : FSpec where
 X := Unit
 Y := RT0
 ash := []
 S := ⟨[[none, none, none, none, none, none, none, none, none, some 9, none, none, none, none, none, none, none, none, none, none, none, none, none, none, none]], [], [], [], []⟩
 pat := λ a b => rdA [] [] a b λ _ _ => ()
 args := λ x => []
 ret := λ y => ⟨(AV.agg (zB y)), [], none, [], [], [], none⟩
 t := λ x α k => (match zrO N 0 with | some y1 => (k (y1.1, y1.2.1, y1.2.2.1, y1.2.2.2.1, 1000, 0, 0, 0, 0, [(zy (y1.1, y1.2.1, y1.2.2.1, y1.2.2.2.1, 1000, 0, 0, 0, 0, ()))], 0, 0, 0, 0, 0, 0, 0, 0, 0, 0, 0, 0, 0, 0, 0, ())) | none => none)
abbrev zzY (N : Nat) (x : Unit) : Option (RT0) := (zmE N).d x
theorem zrk (N : Nat) : Zd (zmE N).t := by
 intro x α β k k' r r' h h1
 revert h
 dsimp only [zmE]
 (repeat' (first | (with_reducible refine ze ?_ ?_) | split)) <;> intro h <;> first | exact h1 _ h | cases h
theorem zrl (N : Nat) : Zg (zn qP) (zCW N) zvV (lam N []) Tryd.f41 (zmE N) := λ x => by kernel_rfl
def zCV (N : Nat) : Ent qP := zA (zc qP) (zh _) zk 41 Tryd.f41 Tryd.func41 rfl zvV (lam N []) (zm (l := []) an (by kernel_rfl)) (zmE N) (λ _ => ⟨rfl, rfl⟩) (zrl N) (λ _ _ _ h => zw h (λ _ _ => rfl) (λ _ _ => rfl)) (zrk N)
def zvI : Nat -> Keep × Keep := anL []
def zCF (N : Nat) : GamK := gam (P := qP) [zC9 N]
def ze1 (N : Nat) : FSpec where
 X := qL × Int × ByteArray × RT0 × Int
 Y := qL × Int
 ash := [[some 1], [none], [none], [none, none, none, none, none, none, none, none, none, some 9, none, none, none, none, none, none, none, none, none, none, none, none, none, none, none], [none]]
 S := ⟨[[some 1], [none]], [], [], [], []⟩
 pat := λ a b => zl a λ v1 c2 => jA v1 λ c3 => zl c3 λ c4 c5 => jg 1 c4 λ a0 => zV c5 <| zl c2 λ v6 c7 => Jo .i64 v6 λ a1 => zl c7 λ v8 c9 => zu1 v8 λ a2 => zl c9 λ v10 c11 => zw3 RK0 v10 λ a3 => zl c11 λ v12 c13 => Jo .i64 v12 λ a4 => zV c13 <| zV b <| some (a0, a1, a2, a3, a4)
 args := λ x => [(AV.agg [(AV.list 1 x.1 none)]), (AV.v (.int .i64 x.2.1)), (AV.v (.string x.2.2.1)), (AV.agg (zB x.2.2.2.1)), (AV.v (.int .i64 x.2.2.2.2))]
 ret := λ y => ⟨(AV.tup [(AV.agg [(AV.list 1 y.1 none)]), (AV.v (.int .i64 y.2))]), [], none, [], [], [], none⟩
 t := λ x α k => (match zC8 N (x.1, x.2.1, (3, x.2.2.2.2, x.2.2.1, 0, x.2.2.2.1.1, x.2.2.2.1.2.1, x.2.2.2.1.2.2.1, x.2.2.2.1.2.2.2.1, x.2.2.2.1.2.2.2.2.1, x.2.2.2.1.2.2.2.2.2.1, x.2.2.2.1.2.2.2.2.2.2.1, x.2.2.2.1.2.2.2.2.2.2.2.1, x.2.2.2.1.2.2.2.2.2.2.2.2.1, x.2.2.2.1.2.2.2.2.2.2.2.2.2.1, x.2.2.2.1.2.2.2.2.2.2.2.2.2.2.1, x.2.2.2.1.2.2.2.2.2.2.2.2.2.2.2.1, x.2.2.2.1.2.2.2.2.2.2.2.2.2.2.2.2.1, x.2.2.2.1.2.2.2.2.2.2.2.2.2.2.2.2.2.1, x.2.2.2.1.2.2.2.2.2.2.2.2.2.2.2.2.2.2.1, x.2.2.2.1.2.2.2.2.2.2.2.2.2.2.2.2.2.2.2.1, x.2.2.2.1.2.2.2.2.2.2.2.2.2.2.2.2.2.2.2.2.1, x.2.2.2.1.2.2.2.2.2.2.2.2.2.2.2.2.2.2.2.2.2.1, x.2.2.2.1.2.2.2.2.2.2.2.2.2.2.2.2.2.2.2.2.2.2.1, x.2.2.2.1.2.2.2.2.2.2.2.2.2.2.2.2.2.2.2.2.2.2.2.1, x.2.2.2.1.2.2.2.2.2.2.2.2.2.2.2.2.2.2.2.2.2.2.2.2.1, x.2.2.2.1.2.2.2.2.2.2.2.2.2.2.2.2.2.2.2.2.2.2.2.2.2.1, x.2.2.2.1.2.2.2.2.2.2.2.2.2.2.2.2.2.2.2.2.2.2.2.2.2.2.1, x.2.2.2.1.2.2.2.2.2.2.2.2.2.2.2.2.2.2.2.2.2.2.2.2.2.2.2.1, x.2.2.2.1.2.2.2.2.2.2.2.2.2.2.2.2.2.2.2.2.2.2.2.2.2.2.2.2.1, ())) with | some y1 => (k y1) | none => none)
abbrev zCD (N : Nat) (x : qL × Int × ByteArray × RT0 × Int) : Option (qL × Int) := (ze1 N).d x
theorem zqM (N : Nat) : Zd (ze1 N).t := by
 intro x α β k k' r r' h h1
 revert h
 dsimp only [ze1]
 (repeat' (first | (with_reducible refine ze ?_ ?_) | split)) <;> intro h <;> first | exact h1 _ h | cases h
theorem zqN (N : Nat) : Zg (zn qP) (zCF N) zvI (lam N []) Tryd.f22 (ze1 N) := λ x => by kernel_rfl
theorem zxh (N : Nat) (a : List AV) (b : qL) (x : (ze1 N).X) (h : (ze1 N).pat a b = some x) : a = (ze1 N).args x /\ b = (ze1 N).bs x := by
 obtain ⟨v1, c2, rfl, g0⟩ := zd (show zl _ _ = some x from h)
 obtain ⟨c3, rfl, g1⟩ := zW g0; clear g0
 obtain ⟨c4, c5, rfl, g2⟩ := zd g1; clear g1
 obtain ⟨a0, rfl, g3⟩ := zr g2; clear g2
 obtain ⟨rfl, g4⟩ := zi g3; clear g3
 obtain ⟨v6, c7, rfl, g5⟩ := zd g4; clear g4
 obtain ⟨a1, rfl, g6⟩ := zJ g5; clear g5
 obtain ⟨v8, c9, rfl, g7⟩ := zd g6; clear g6
 obtain ⟨a2, rfl, g8⟩ := zbs g7; clear g7
 obtain ⟨v10, c11, rfl, g9⟩ := zd g8; clear g8
 obtain ⟨a3, rfl, g10⟩ := zdD g9; clear g9
 obtain ⟨v12, c13, rfl, g11⟩ := zd g10; clear g10
 obtain ⟨a4, rfl, g12⟩ := zJ g11; clear g11
 obtain ⟨rfl, g13⟩ := zi g12; clear g12
 obtain ⟨rfl, g14⟩ := zi g13; clear g13
 clear h
 cases g14
 exact ⟨rfl, rfl⟩
def zCE (N : Nat) : Ent qP := zA (zc qP) (zh _) zk 22 Tryd.f22 Tryd.func22 rfl zvI (lam N []) (zm (l := []) an (by kernel_rfl)) (ze1 N) (λ _ => ⟨rfl, rfl⟩) (zqN N) (zxh N) (zqM N)
def zbC : Nat -> Keep × Keep := anL [(8, ⟨[12, 13], [], [], [(0, 1), (1, 1)], [], [], [], [], false, none, []⟩, qK [4] [] [])]
def zz1 (N : Nat) : GamK := gam (P := qP) []
def zcL (N : Nat) : LSpec where
 X := qL × qL × Int × Int
 Y := (Bool) ⊕ (Unit)
 p := λ s => rdS 26 0 [(0, .lst 1), (1, .lst 1), (12, .int .i64), (13, .int .i64)] [] s λ ⟨a0, a1, a2, a3, _⟩ _ => (a0, a1, a2, a3)
 st := λ u8 => mkS 26 [(0, (AV.list 1 u8.1 none)), (1, (AV.list 1 u8.2.1 none)), (12, (qI u8.2.2.1)), (13, (qI u8.2.2.2))] [] (zbC 8).1.toks 0
 out := λ y => match y with
  | .inl y => (.ret, mkS 26 [(4, (AV.v (.bool y)))] [] (zbC 8).2.toks 0)
  | .inr y => (.exit 0, mkS 26 [] [] (zbC 8).2.toks 0)
 b := λ u8 α kn ke => (match (decide (u8.2.2.2 < u8.2.2.1)) with | true => (if 0 <= u8.2.2.2 then (match u8.1[u8.2.2.2.toNat]? with | some c1 => (match c1[0]? with | some x2 => (match x2 with | .v (.int q4 n3) => (if q4 = .i64 then (if 0 <= u8.2.2.2 then (match u8.2.1[u8.2.2.2.toNat]? with | some c5 => (match c5[0]? with | some x6 => (match x6 with | .v (.int q8 n7) => (if q8 = .i64 then (match (n3 != n7) with | true => (ke (.inl false)) | false => (kn (u8.1, u8.2.1, u8.2.2.1, (i64 (u8.2.2.2 + 1))))) else none) | _ => none) | none => none) | none => none) else none) else none) | _ => none) | none => none) | none => none) else none) | false => (ke (.inr ())))
abbrev zz0 (N : Nat) (x : qL × qL × Int × Int) : Option ((Bool) ⊕ (Unit)) := (zcL N).L N x
def zmH (N : Nat) : FSpec where
 X := qL × qL
 Y := Bool
 ash := [[some 1], [some 1]]
 S := ⟨[[none]], [], [], [], []⟩
 pat := λ a b => rdA [.lst 1, .lst 1] [] a b λ ⟨a0, a1, _⟩ _ => (a0, a1)
 args := λ x => [(AV.list 1 x.1 none), (AV.list 1 x.2 none)]
 ret := λ y => ⟨(AV.v (.bool y)), [], none, [], [], [], none⟩
 t := λ x α k => (match ((x.1.length : Int) != (x.2.length : Int)) with | true => (k false) | false => (match zz0 N (x.1, x.2, (x.1.length : Int), 0) with | some y9 => (match y9 with | .inl z10 => (k z10) | .inr z11 => (k true)) | none => none))
abbrev zzZ (N : Nat) (x : qL × qL) : Option (Bool) := (zmH N).d x
def zgb (N : Nat) : List (Nat × LSpec) := [(8, zcL N)]
def zrm : Code := Tryd.f42.body.getD .skip
theorem zrn (N : Nat) : Par (zcL N).b := by
 intro x α β kn ke kn' ke' r r' h h1 h2
 revert h
 dsimp only [zcL]
 (repeat' (first | (with_reducible refine ze ?_ ?_) | split)) <;> intro h <;> first | exact h1 _ h | exact h2 _ h | cases h
theorem zmF (N : Nat) : Z3 (zn qP) (zz1 N) zbC N (zgb N) 8 zrm (zcL N) := λ x α kn ke => by kernel_rfl
theorem zmG (N : Nat) : ZB qP zbC N (zgb N) 8 (zb 8 zrm) :=
 zD (zc qP) (zh _) zk zbC N (zgb N) 8 zrm (l := []) (by kernel_rfl) (by kernel_rfl) an (zcL N) rfl (λ s x hc h => by dsimp only [zcL] at h; exact zG hc h (λ _ _ => rfl) rfl rfl rfl) (λ _ => rfl) (zmF N) (zrn N)
theorem zro (N : Nat) : Zd (zmH N).t := by
 intro x α β k k' r r' h h1
 revert h
 dsimp only [zmH]
 (repeat' (first | (with_reducible refine ze ?_ ?_) | split)) <;> intro h <;> first | exact h1 _ h | cases h
theorem zrp (N : Nat) : Zg (zn qP) (zz1 N) zbC (lam N (zgb N)) Tryd.f42 (zmH N) := λ x => by kernel_rfl
def zCX (N : Nat) : Ent qP := zA (zc qP) (zh _) zk 42 Tryd.f42 Tryd.func42 rfl zbC (lam N (zgb N)) (zm (l := [(8, zb 8 zrm)]) (al (zmG N) an) (by kernel_rfl)) (zmH N) (λ _ => ⟨rfl, rfl⟩) (zrp N) (λ _ _ _ h => zw h (λ _ _ => rfl) (λ _ _ => rfl)) (zro N)
def zvx : Nat -> Keep × Keep := anL []
def zCv (N : Nat) : GamK := gam (P := qP) [zCV N, zzE N, zCE N, zCX N, zCY N]
def zl2 (N : Nat) : FSpec where
 X := Unit
 Y := Bool
 ash := []
 S := ⟨[[none]], [], [], [], []⟩
 pat := λ a b => rdA [] [] a b λ _ _ => ()
 args := λ x => []
 ret := λ y => ⟨(AV.v (.bool y)), [], none, [], [], [], none⟩
 t := λ x α k => (match zzY N () with | some y1 => (match zjJ N (([] : qL), [(zB y1)], 5) with | some y2 => (match zjJ N (y2.1, ([] : qL), 6) with | some y3 => (match zzY N () with | some y4 => (match zCD N (y2.1, 0, (⟨#[97, 110, 110]⟩ : ByteArray), y4, 6) with | some y5 => (match zjJ N (y5.1, ([] : qL), 7) with | some y6 => (match (y2.2.2 == 0) with | true => (match zzZ N (y2.2.1, [[(AV.v (.int .i64 0))]]) with | some y7 => (match y7 with | true => (match (y3.2.2 == 0) with | true => (match zzZ N (y3.2.1, [[(AV.v (.int .i64 0))]]) with | some y8 => (match y8 with | true => (match zxw N (y3.1, 6) with | some y9 => (match ((y9.length : Int) == 0) with | true => (match zxw N (y3.1, 5) with | some y10 => (match ((y10.length : Int) == 1) with | true => (match (y5.2 == 0) with | true => (match (y6.2.2 == 0) with | true => (match ((y6.2.1.length : Int) == 0) with | true => (match zxw N (y6.1, 7) with | some y11 => (k ((y11.length : Int) == 1)) | none => none) | false => (k false)) | false => (k false)) | false => (k false)) | false => (k false)) | none => none) | false => (k false)) | none => none) | false => (k false)) | none => none) | false => (k false)) | false => (k false)) | none => none) | false => (k false)) | none => none) | none => none) | none => none) | none => none) | none => none) | none => none)
abbrev zzF (N : Nat) (x : Unit) : Option (Bool) := (zl2 N).d x
theorem zqn (N : Nat) : Zd (zl2 N).t := by
 intro x α β k k' r r' h h1
 revert h
 dsimp only [zl2]
 (repeat' (first | (with_reducible refine ze ?_ ?_) | split)) <;> intro h <;> first | exact h1 _ h | cases h
theorem zqo (N : Nat) : Zg (zn qP) (zCv N) zvx (lam N []) Tryd.f12 (zl2 N) := λ x => by kernel_rfl
def zCu (N : Nat) : Ent qP := zA (zc qP) (zh _) zk 12 Tryd.f12 Tryd.func12 rfl zvx (lam N []) (zm (l := []) an (by kernel_rfl)) (zl2 N) (λ _ => ⟨rfl, rfl⟩) (zqo N) (λ _ _ _ h => zw h (λ _ _ => rfl) (λ _ _ => rfl)) (zqn N)
end
end Go.Proofs.YthdgnfcbehcplaaDoor
end
section
namespace Go.Proofs.YthdgnfcbehcplaaDoor
noncomputable section
open Go.RowKit
set_option maxRecDepth 4000
set_option maxHeartbeats 4000000
def zAw : Nat -> Keep × Keep := anL []
def F6_g (N : Nat) : GamK := gam (P := qP) []
def zzo (N : Nat) : FSpec where
 X := qL
 Y := qL × Int
 ash := [[some 1]]
 S := ⟨[[none]], [], [some 1, none], [], []⟩
 pat := λ a b => rdA [.lst 1] [] a b λ ⟨a0, _⟩ _ => a0
 args := λ x => [(AV.list 1 x none)]
 ret := λ y => ⟨(AV.ptr 0 0), [], some [(AV.list 1 y.1 none), (AV.v (.int .i64 y.2))], [], [], [], none⟩
 t := λ x α k => (if 0 <= (if 2000 < (x.length : Int) then 2000 else (x.length : Int)) /\ (if 2000 < (x.length : Int) then 2000 else (x.length : Int)) <= x.length then (k ((x.take (if 2000 < (x.length : Int) then 2000 else (x.length : Int)).toNat), 0)) else none)
abbrev zDr (N : Nat) (x : qL) : Option (qL × Int) := (zzo N).d x
theorem zxT (N : Nat) : Zd (zzo N).t := by
 intro x α β k k' r r' h h1
 revert h
 dsimp only [zzo]
 (repeat' (first | (with_reducible refine ze ?_ ?_) | split)) <;> intro h <;> first | exact h1 _ h | cases h
theorem zxU (N : Nat) : Zg (zn qP) (F6_g N) zAw (lam N []) Tryd.f6 (zzo N) := λ x => by kernel_rfl
def F6_e (N : Nat) : Ent qP := zA (zc qP) (zh _) zk 6 Tryd.f6 Tryd.func6 rfl zAw (lam N []) (zm (l := []) an (by kernel_rfl)) (zzo N) (λ _ => ⟨rfl, rfl⟩) (zxU N) (λ _ _ _ h => zw h (λ _ _ => rfl) (λ _ _ => rfl)) (zxT N)
def zmq : Nat -> Keep × Keep := anL []
def zzS (N : Nat) : GamK := gam (P := qP) []
def zga (N : Nat) : FSpec where
 X := qL × Int
 Y := Int × qL × Int
 ash := [[none]]
 bsh := [[some 1, none]]
 S := ⟨[[none]], [[some 1, none]], [], [], []⟩
 pat := λ a b => rdA [.ptr 0 0] [.cells [.lst 1, .int .i64]] a b λ ⟨_, _⟩ ⟨⟨a0, a1, _⟩, _⟩ => (a0, a1)
 args := λ x => [(AV.ptr 0 0)]
 bs := λ x => [[(AV.list 1 x.1 none), (AV.v (.int .i64 x.2))]]
 ret := λ y => ⟨(AV.v (.int .i64 y.1)), [[(AV.list 1 y.2.1 none), (AV.v (.int .i64 y.2.2))]], none, [], [], [], none⟩
 t := λ x α k => (match (decide (x.2 >= (x.1.length : Int))) with | true => (k (0, x)) | false => (if 0 <= (i64 ((i64 (x.2 + 1)) - 1)) then (match x.1[(i64 ((i64 (x.2 + 1)) - 1)).toNat]? with | some c1 => (match c1[0]? with | some x2 => (match x2 with | .v (.int q4 n3) => (if q4 = .i64 then (k (n3, x.1, (i64 (x.2 + 1)))) else none) | _ => none) | none => none) | none => none) else none))
abbrev zzQ (N : Nat) (x : qL × Int) : Option (Int × qL × Int) := (zga N).d x
theorem zmr (N : Nat) : Zd (zga N).t := by
 intro x α β k k' r r' h h1
 revert h
 dsimp only [zga]
 (repeat' (first | (with_reducible refine ze ?_ ?_) | split)) <;> intro h <;> first | exact h1 _ h | cases h
theorem zms (N : Nat) : Zg (zn qP) (zzS N) zmq (lam N []) Tryd.f32 (zga N) := λ x => by kernel_rfl
def zzR (N : Nat) : Ent qP := zA (zc qP) (zh _) zk 32 Tryd.f32 Tryd.func32 rfl zmq (lam N []) (zm (l := []) an (by kernel_rfl)) (zga N) (λ _ => ⟨rfl, rfl⟩) (zms N) (λ _ _ _ h => zw h (λ _ _ => rfl) (λ _ _ => rfl)) (zmr N)
def zwC : Nat -> Keep × Keep := anL []
def zDP (N : Nat) : GamK := gam (P := qP) [zzR N, zzM N]
def zoE (N : Nat) : FSpec where
 X := Int × qL × Int
 Y := Int × qL × Int
 ash := [[none], [none]]
 bsh := [[some 1, none]]
 S := ⟨[[none]], [[some 1, none]], [], [], []⟩
 pat := λ a b => rdA [.ptr 0 0, .int .i64] [.cells [.lst 1, .int .i64]] a b λ ⟨_, a0, _⟩ ⟨⟨a1, a2, _⟩, _⟩ => (a0, a1, a2)
 args := λ x => [(AV.ptr 0 0), (AV.v (.int .i64 x.1))]
 bs := λ x => [[(AV.list 1 x.2.1 none), (AV.v (.int .i64 x.2.2))]]
 ret := λ y => ⟨(AV.v (.int .i64 y.1)), [[(AV.list 1 y.2.1 none), (AV.v (.int .i64 y.2.2))]], none, [], [], [], none⟩
 t := λ x α k => (match zzQ N x.2 with | some y1 => (match zmh N (y1.1, x.1) with | some y2 => (k (y2, y1.2)) | none => none) | none => none)
abbrev Jk (N : Nat) (x : Int × qL × Int) : Option (Int × qL × Int) := (zoE N).d x
theorem ztH (N : Nat) : Zd (zoE N).t := by
 intro x α β k k' r r' h h1
 revert h
 dsimp only [zoE]
 (repeat' (first | (with_reducible refine ze ?_ ?_) | split)) <;> intro h <;> first | exact h1 _ h | cases h
theorem ztI (N : Nat) : Zg (zn qP) (zDP N) zwC (lam N []) Tryd.f8 (zoE N) := λ x => by kernel_rfl
def zhB (N : Nat) : Ent qP := zA (zc qP) (zh _) zk 8 Tryd.f8 Tryd.func8 rfl zwC (lam N []) (zm (l := []) an (by kernel_rfl)) (zoE N) (λ _ => ⟨rfl, rfl⟩) (ztI N) (λ _ _ _ h => zw h (λ _ _ => rfl) (λ _ _ => rfl)) (ztH N)
def znf : Nat -> Keep × Keep := anL []
def zAc (N : Nat) : GamK := gam (P := qP) [zhB N]
def zgh (N : Nat) : FSpec where
 X := Int × qL × Int
 Y := Int × Int × Int × qL × Int
 ash := [[none], [none]]
 bsh := [[some 1, none]]
 S := ⟨[[none, none, none]], [[some 1, none]], [], [], []⟩
 pat := λ a b => rdA [.ptr 0 0, .int .i64] [.cells [.lst 1, .int .i64]] a b λ ⟨_, a0, _⟩ ⟨⟨a1, a2, _⟩, _⟩ => (a0, a1, a2)
 args := λ x => [(AV.ptr 0 0), (AV.v (.int .i64 x.1))]
 bs := λ x => [[(AV.list 1 x.2.1 none), (AV.v (.int .i64 x.2.2))]]
 ret := λ y => ⟨(AV.agg [(AV.v (.int .i64 y.1)), (AV.v (.int .i64 y.2.1)), (AV.v (.int .i64 y.2.2.1))]), [[(AV.list 1 y.2.2.2.1 none), (AV.v (.int .i64 y.2.2.2.2))]], none, [], [], [], none⟩
 t := λ x α k => (match Jk N ((i64 ((i64 (2 * x.1)) + 1)), x.2) with | some y1 => (match Jk N ((i64 ((i64 (2 * x.1)) + 1)), y1.2) with | some y2 => (match Jk N ((i64 (x.1 + 1)), y2.2) with | some y3 => (k ((i64 (y1.1 - x.1)), (i64 (y2.1 - x.1)), y3)) | none => none) | none => none) | none => none)
abbrev zAa (N : Nat) (x : Int × qL × Int) : Option (Int × Int × Int × qL × Int) := (zgh N).d x
theorem zng (N : Nat) : Zd (zgh N).t := by
 intro x α β k k' r r' h h1
 revert h
 dsimp only [zgh]
 (repeat' (first | (with_reducible refine ze ?_ ?_) | split)) <;> intro h <;> first | exact h1 _ h | cases h
theorem znh (N : Nat) : Zg (zn qP) (zAc N) znf (lam N []) Tryd.f51 (zgh N) := λ x => by kernel_rfl
def zAb (N : Nat) : Ent qP := zA (zc qP) (zh _) zk 51 Tryd.f51 Tryd.func51 rfl znf (lam N []) (zm (l := []) an (by kernel_rfl)) (zgh N) (λ _ => ⟨rfl, rfl⟩) (znh N) (λ _ _ _ h => zw h (λ _ _ => rfl) (λ _ _ => rfl)) (zng N)
def zni : Nat -> Keep × Keep := anL []
def zAg (N : Nat) : GamK := gam (P := qP) [zhB N]
def zgi (N : Nat) : FSpec where
 X := qL × qL × Int
 Y := Int × qL × Int
 ash := [[none], [some 1]]
 bsh := [[some 1, none]]
 S := ⟨[[none]], [[some 1, none]], [], [], []⟩
 pat := λ a b => rdA [.ptr 0 0, .lst 1] [.cells [.lst 1, .int .i64]] a b λ ⟨_, a0, _⟩ ⟨⟨a1, a2, _⟩, _⟩ => (a0, a1, a2)
 args := λ x => [(AV.ptr 0 0), (AV.list 1 x.1 none)]
 bs := λ x => [[(AV.list 1 x.2.1 none), (AV.v (.int .i64 x.2.2))]]
 ret := λ y => ⟨(AV.v (.int .i64 y.1)), [[(AV.list 1 y.2.1 none), (AV.v (.int .i64 y.2.2))]], none, [], [], [], none⟩
 t := λ x α k => (match Jk N ((x.1.length : Int), x.2) with | some y1 => (if 0 <= y1.1 then (match x.1[y1.1.toNat]? with | some c2 => (match c2[0]? with | some x3 => (match x3 with | .v (.int q5 n4) => (if q5 = .i64 then (k (n4, y1.2)) else none) | _ => none) | none => none) | none => none) else none) | none => none)
abbrev zAe (N : Nat) (x : qL × qL × Int) : Option (Int × qL × Int) := (zgi N).d x
theorem znj (N : Nat) : Zd (zgi N).t := by
 intro x α β k k' r r' h h1
 revert h
 dsimp only [zgi]
 (repeat' (first | (with_reducible refine ze ?_ ?_) | split)) <;> intro h <;> first | exact h1 _ h | cases h
theorem znk (N : Nat) : Zg (zn qP) (zAg N) zni (lam N []) Tryd.f52 (zgi N) := λ x => by kernel_rfl
def zAf (N : Nat) : Ent qP := zA (zc qP) (zh _) zk 52 Tryd.f52 Tryd.func52 rfl zni (lam N []) (zm (l := []) an (by kernel_rfl)) (zgi N) (λ _ => ⟨rfl, rfl⟩) (znk N) (λ _ _ _ h => zw h (λ _ _ => rfl) (λ _ _ => rfl)) (znj N)
def zax : Nat -> Keep × Keep := anL [(6, ⟨[0, 1, 4, 5, 6, 7], [], [0, 4, 5], [], [((4, 9), 9)], [], [((5, 9), 9)], [], false, none, []⟩, ⟨[0, 4, 5, 6], [], [0, 4, 5], [], [((4, 9), 9)], [], [((5, 9), 9)], [], false, none, []⟩)]
def zvG (N : Nat) : GamK := gam (P := qP) [zhB N, zz8 N, zAb N, zAf N]
def zay (N : Nat) : LSpec where
 X := Int × Int × Int × qL × Int × RT8 × zqe × qA
 Y := (Int × qL × Int × RT8 × zqe × qA)
 p := λ s => rdS 98 1 [(0, .ptr 0 0), (1, .int .i64), (4, .ptr 4 0), (5, .ptr 5 0), (6, .int .i64), (7, .int .i64)] [(0, .cells [.lst 1, .int .i64]), (4, .row RK8), (5, .row zD5), (2020489, .tt)] s λ ⟨_, a0, _, _, a1, a2, _⟩ ⟨⟨a3, a4, _⟩, a5, a6, a7, _⟩ => (a0, a1, a2, a3, a4, a5, a6, a7)
 st := λ u6 => mkS 98 [(0, (AV.ptr 0 0)), (1, (qI u6.1)), (4, (AV.ptr 4 0)), (5, (AV.ptr 5 0)), (6, (qI u6.2.1)), (7, (qI u6.2.2.1))] [(0, [(AV.list 1 u6.2.2.2.1 none), (qI u6.2.2.2.2.1)]), (4, (zCf u6.2.2.2.2.2.1)), (5, (zuc u6.2.2.2.2.2.2.1)), (2020489, u6.2.2.2.2.2.2.2)] (zax 6).1.toks 1
 out := λ y => (.exit 0, mkS 98 [(0, (AV.ptr 0 0)), (4, (AV.ptr 4 0)), (5, (AV.ptr 5 0)), (6, (qI y.1))] [(0, [(AV.list 1 y.2.1 none), (qI y.2.2.1)]), (4, (zCf y.2.2.2.1)), (5, (zuc y.2.2.2.2.1)), (2020489, y.2.2.2.2.2)] (zax 6).2.toks 1)
 b := λ u6 α kn ke => (match Jk N (4, u6.2.2.2.1, u6.2.2.2.2.1) with | some y5 => (match (decide (u6.2.2.1 < (i64 (1 + y5.1)))) with | true => (match zrO N u6.2.2.1 with | some y6 => (match Jk N (3, y5.2) with | some y7 => (if u6.2.2.2.2.2.2.1.2.2.2.2.2.2.2.2.2.1 * 9 <= u6.2.2.2.2.2.2.2.length /\ (u6.2.2.2.2.2.2.1.2.2.2.2.2.2.2.2.2.1 + [(zy (y6.1, y6.2.1, y6.2.2.1, y6.2.2.2.1, (i64 (u6.2.1 + (i64 (10 * u6.1)))), (i64 (u6.2.1 + (i64 (10 * u6.1)))), (i64 ((i64 (u6.2.1 + (i64 (10 * u6.1)))) + y7.1)), u6.1, 0, ()))].length) * 104 <= zg then (kn (u6.1, u6.2.1, (i64 (u6.2.2.1 + 1)), y7.2.1, y7.2.2, u6.2.2.2.2.2.1, (u6.2.2.2.2.2.2.1.1, u6.2.2.2.2.2.2.1.2.1, u6.2.2.2.2.2.2.1.2.2.1, u6.2.2.2.2.2.2.1.2.2.2.1, u6.2.2.2.2.2.2.1.2.2.2.2.1, u6.2.2.2.2.2.2.1.2.2.2.2.2.1, u6.2.2.2.2.2.2.1.2.2.2.2.2.2.1, u6.2.2.2.2.2.2.1.2.2.2.2.2.2.2.1, u6.2.2.2.2.2.2.1.2.2.2.2.2.2.2.2.1, (u6.2.2.2.2.2.2.1.2.2.2.2.2.2.2.2.2.1 + [(zy (y6.1, y6.2.1, y6.2.2.1, y6.2.2.2.1, (i64 (u6.2.1 + (i64 (10 * u6.1)))), (i64 (u6.2.1 + (i64 (10 * u6.1)))), (i64 ((i64 (u6.2.1 + (i64 (10 * u6.1)))) + y7.1)), u6.1, 0, ()))].length), u6.2.2.2.2.2.2.1.2.2.2.2.2.2.2.2.2.2), ((u6.2.2.2.2.2.2.2.take (u6.2.2.2.2.2.2.1.2.2.2.2.2.2.2.2.2.1 * 9) ++ [(zy (y6.1, y6.2.1, y6.2.2.1, y6.2.2.2.1, (i64 (u6.2.1 + (i64 (10 * u6.1)))), (i64 (u6.2.1 + (i64 (10 * u6.1)))), (i64 ((i64 (u6.2.1 + (i64 (10 * u6.1)))) + y7.1)), u6.1, 0, ()))].flatten).map dat0))) else none) | none => none) | none => none) | false => (ke (u6.2.1, y5.2.1, y5.2.2, u6.2.2.2.2.2.1, u6.2.2.2.2.2.2.1, (u6.2.2.2.2.2.2.2.map dat0)))) | none => none)
abbrev zxg (N : Nat) (x : Int × Int × Int × qL × Int × RT8 × zqe × qA) : Option ((Int × qL × Int × RT8 × zqe × qA)) := (zay N).L N x
def zf8 (N : Nat) : FSpec where
 X := Int × qL × Int
 Y := zyf × qL × Int × qA
 ash := [[none], [none]]
 bsh := [[some 1, none]]
 S := ⟨[[none, none, none, none, none, none, none, none, none, some 9, none, none, none, none, none, none, none, none, none, none, none, none, none, none, none]], [[some 1, none]], [], [], []⟩
 bm := true
 pat := λ a b => rdA [.ptr 0 0, .int .i64] [.cells [.lst 1, .int .i64]] a b λ ⟨_, a0, _⟩ ⟨⟨a1, a2, _⟩, _⟩ => (a0, a1, a2)
 args := λ x => [(AV.ptr 0 0), (AV.v (.int .i64 x.1))]
 bs := λ x => [[(AV.list 1 x.2.1 none), (AV.v (.int .i64 x.2.2))]]
 ret := λ y => ⟨(AV.agg (zBg y.1)), [[(AV.list 1 y.2.1 none), (AV.v (.int .i64 y.2.2.1))]], some y.2.2.2, [], [], [], none⟩
 t := λ x α k => (match Jk N (300, x.2) with | some y1 => (match zxg N (x.1, (i64 (1000 + y1.1)), 0, y1.2.1, y1.2.2, ((⟨#[]⟩ : ByteArray), (⟨#[]⟩ : ByteArray), (⟨#[]⟩ : ByteArray), (⟨#[]⟩ : ByteArray), 0, 0, 0, 0, 0, ([] : qL), 0, 0, 0, 0, 0, 0, 0, 0, 0, 0, 0, 0, 0, 0, 0, ()), ((⟨#[]⟩ : ByteArray), (⟨#[]⟩ : ByteArray), (⟨#[]⟩ : ByteArray), (⟨#[]⟩ : ByteArray), 0, 0, 0, 0, 0, 0, 0, 0, 0, 0, 0, 0, 0, 0, 0, 0, 0, 0, 0, 0, 0, ()), ([] : List AV)) with | some y8 => (if 0 <= (0 : Int) /\ (0 : Int) < (y8.2.2.2.2.1.2.2.2.2.2.2.2.2.2.1 : Int) then (match Jy (y8.2.2.2.2.2.drop ((0 + (0 : Int).toNat) * 9)) with | some e9 => (match zAa N (20, y8.2.1, y8.2.2.1) with | some y10 => (match Jk N (40, y10.2.2.2) with | some y11 => (match zAe N ([[(AV.v (.int .i64 0))], [(AV.v (.int .i64 0))], [(AV.v (.int .i64 5))], [(AV.v (.int .i64 500))]], y11.2) with | some y12 => (match Jk N (3, y12.2) with | some y13 => (match (decide (y13.1 > 0)) with | true => (match Jk N (400, y13.2) with | some y14 => (match Jk N (60, y14.2) with | some y15 => (k ((e9.1, e9.2.1, e9.2.2.1, e9.2.2.2.1, e9.2.2.2.2.1, e9.2.2.2.2.2.1, e9.2.2.2.2.2.2.1, e9.2.2.2.2.2.2.2.1, e9.2.2.2.2.2.2.2.2.1, y8.2.2.2.2.1.2.2.2.2.2.2.2.2.2.1, y10.1, y10.2.1, y10.2.2.1, (i64 (y8.1 - y11.1)), y12.1, 0, y10.1, y10.2.1, y10.2.2.1, y10.1, y10.2.1, y10.2.2.1, y14.1, (i64 (y14.1 + y15.1)), y13.1, ()), y15.2.1, y15.2.2, (y8.2.2.2.2.2.map dat0))) | none => none) | none => none) | false => (k ((e9.1, e9.2.1, e9.2.2.1, e9.2.2.2.1, e9.2.2.2.2.1, e9.2.2.2.2.2.1, e9.2.2.2.2.2.2.1, e9.2.2.2.2.2.2.2.1, e9.2.2.2.2.2.2.2.2.1, y8.2.2.2.2.1.2.2.2.2.2.2.2.2.2.1, y10.1, y10.2.1, y10.2.2.1, (i64 (y8.1 - y11.1)), y12.1, 0, y10.1, y10.2.1, y10.2.2.1, y10.1, y10.2.1, y10.2.2.1, y8.2.2.2.2.1.2.2.2.2.2.2.2.2.2.2.2.2.2.2.2.2.2.2.2.2.2.2.1, y8.2.2.2.2.1.2.2.2.2.2.2.2.2.2.2.2.2.2.2.2.2.2.2.2.2.2.2.2.1, y13.1, ()), y13.2.1, y13.2.2, (y8.2.2.2.2.2.map dat0)))) | none => none) | none => none) | none => none) | none => none) | none => none) else none) | none => none) | none => none)
abbrev zzK (N : Nat) (x : Int × qL × Int) : Option (zyf × qL × Int × qA) := (zf8 N).d x
def zcI (N : Nat) : List (Nat × LSpec) := [(6, zay N)]
def ziy : Code := Tryd.f20.body.getD .skip
theorem zme (N : Nat) : Par (zay N).b := by
 intro x α β kn ke kn' ke' r r' h h1 h2
 revert h
 dsimp only [zay]
 (repeat' (first | (with_reducible refine ze ?_ ?_) | split)) <;> intro h <;> first | exact h1 _ h | exact h2 _ h | cases h
theorem zjU (N : Nat) : Z3 (JQ qP [41]) (zvG N) zax N (zcI N) 6 ziy (zay N) := λ x α kn ke => by kernel_rfl
theorem zjV (N : Nat) : ZB qP zax N (zcI N) 6 (zb 6 ziy) :=
 zD (zL qP [41]) (zh _) zk zax N (zcI N) 6 ziy (l := []) (by kernel_rfl) (by kernel_rfl) an (zay N) rfl (λ s x hc h => by dsimp only [zay] at h; exact zG hc h (λ _ _ => rfl) rfl rfl rfl) (λ _ => rfl) (zjU N) (zme N)
theorem zmf (N : Nat) : Zd (zf8 N).t := by
 intro x α β k k' r r' h h1
 revert h
 dsimp only [zf8]
 (repeat' (first | (with_reducible refine ze ?_ ?_) | split)) <;> intro h <;> first | exact h1 _ h | cases h
theorem zmg (N : Nat) : Zg (JQ qP [41]) (zvG N) zax (lam N (zcI N)) Tryd.f20 (zf8 N) := λ x => by kernel_rfl
def zzL (N : Nat) : Ent qP := zA (zL qP [41]) (zh _) zk 20 Tryd.f20 Tryd.func20 rfl zax (lam N (zcI N)) (zm (l := [(6, zb 6 ziy)]) (al (zjV N) an) (by kernel_rfl)) (zf8 N) (λ _ => ⟨rfl, rfl⟩) (zmg N) (λ _ _ _ h => zw h (λ _ _ => rfl) (λ _ _ => rfl)) (zmf N)
def JJ : Nat -> Keep × Keep := anF [(5, ⟨[0, 1, 6], [], [0], [], [], [(5, 25)], [], [], false, none, []⟩, ⟨[], [], [0], [], [], [(5, 25)], [], [], false, none, []⟩), (18, ⟨[0, 1, 5, 6, 7, 23, 24], [], [0, 7, 19, 1000005], [], [], [], [], [19, 1000005], false, none, []⟩, ⟨[0, 1, 5, 6, 7], [], [0, 7, 19, 1000005], [], [], [], [], [19, 1000005], false, none, []⟩)] [(100015, ([], [((7, 9), 9)])), (100016, ([5], []))]
def zye (N : Nat) : GamK := gam (P := qP) [zhB N, zzL N]
def zaF (N : Nat) : LSpec where
 X := Int × Nat × Int × Int × Int × qL × Int × zub × qA × qA
 Y := (Int × Nat × Int × qL × Int × zub × qA × qA)
 p := λ s => rdS 86 1 [(0, .ptr 0 0), (1, .int .i64), (5, .vs0 1000005 25), (6, .int .i64), (7, .ptr 7 0), (23, .int .i64), (24, .int .i64)] [(0, .cells [.lst 1, .int .i64]), (7, .row zD6), (19, .tt), (1000005, .tt)] s λ ⟨_, a0, a1, a2, _, a3, a4, _⟩ ⟨⟨a5, a6, _⟩, a7, a8, a9, _⟩ => (a0, a1, a2, a3, a4, a5, a6, a7, a8, a9)
 st := λ u18 => mkS 86 [(0, (AV.ptr 0 0)), (1, (qI u18.1)), (5, (AV.vs 1000005 0 u18.2.1 25)), (6, (qI u18.2.2.1)), (7, (AV.ptr 7 0)), (23, (qI u18.2.2.2.1)), (24, (qI u18.2.2.2.2.1))] [(0, [(AV.list 1 u18.2.2.2.2.2.1 none), (qI u18.2.2.2.2.2.2.1)]), (7, (zud u18.2.2.2.2.2.2.2.1)), (19, u18.2.2.2.2.2.2.2.2.1), (1000005, u18.2.2.2.2.2.2.2.2.2)] (JJ 18).1.toks 1
 out := λ y => (.exit 2, mkS 86 [(0, (AV.ptr 0 0)), (1, (qI y.1)), (5, (AV.vs 1000005 0 y.2.1 25)), (6, (qI y.2.2.1)), (7, (AV.ptr 7 0))] [(0, [(AV.list 1 y.2.2.2.1 none), (qI y.2.2.2.2.1)]), (7, (zud y.2.2.2.2.2.1)), (19, y.2.2.2.2.2.2.1), (1000005, y.2.2.2.2.2.2.2)] (JJ 18).2.toks 1)
 b := λ u18 α kn ke => (match (decide (u18.2.2.2.2.1 < u18.2.2.2.1)) with | true => (if 0 <= u18.2.2.2.2.1 /\ u18.2.2.2.2.1 < (u18.2.2.2.2.2.2.2.1.2.2.2.2.2.2.2.2.2.1 : Int) then (if (((0 + u18.2.2.2.2.1.toNat) * 9) + 4) + 1 <= u18.2.2.2.2.2.2.2.2.1.length then (if (((0 + u18.2.2.2.2.1.toNat) * 9) + 5) + 1 <= (splice u18.2.2.2.2.2.2.2.2.1 (((0 + u18.2.2.2.2.1.toNat) * 9) + 4) [(AV.v (.int .i64 (i64 ((i64 (1000 + (i64 (400 * u18.2.2.1)))) + u18.2.2.2.2.1))))]).length then (if (((0 + u18.2.2.2.2.1.toNat) * 9) + 6) + 1 <= (splice (splice u18.2.2.2.2.2.2.2.2.1 (((0 + u18.2.2.2.2.1.toNat) * 9) + 4) [(AV.v (.int .i64 (i64 ((i64 (1000 + (i64 (400 * u18.2.2.1)))) + u18.2.2.2.2.1))))]) (((0 + u18.2.2.2.2.1.toNat) * 9) + 5) [(AV.v (.int .i64 (i64 ((i64 (1000 + (i64 (400 * u18.2.2.1)))) + u18.2.2.2.2.1))))]).length then (if (((0 + u18.2.2.2.2.1.toNat) * 9) + 7) + 1 <= (splice (splice (splice u18.2.2.2.2.2.2.2.2.1 (((0 + u18.2.2.2.2.1.toNat) * 9) + 4) [(AV.v (.int .i64 (i64 ((i64 (1000 + (i64 (400 * u18.2.2.1)))) + u18.2.2.2.2.1))))]) (((0 + u18.2.2.2.2.1.toNat) * 9) + 5) [(AV.v (.int .i64 (i64 ((i64 (1000 + (i64 (400 * u18.2.2.1)))) + u18.2.2.2.2.1))))]) (((0 + u18.2.2.2.2.1.toNat) * 9) + 6) [(AV.v (.int .i64 (i64 ((i64 ((i64 (1000 + (i64 (400 * u18.2.2.1)))) + u18.2.2.2.2.1)) + 2))))]).length then (kn (u18.1, u18.2.1, u18.2.2.1, u18.2.2.2.1, (i64 (u18.2.2.2.2.1 + 1)), u18.2.2.2.2.2.1, u18.2.2.2.2.2.2.1, u18.2.2.2.2.2.2.2.1, ((splice (splice (splice (splice u18.2.2.2.2.2.2.2.2.1 (((0 + u18.2.2.2.2.1.toNat) * 9) + 4) [(AV.v (.int .i64 (i64 ((i64 (1000 + (i64 (400 * u18.2.2.1)))) + u18.2.2.2.2.1))))]) (((0 + u18.2.2.2.2.1.toNat) * 9) + 5) [(AV.v (.int .i64 (i64 ((i64 (1000 + (i64 (400 * u18.2.2.1)))) + u18.2.2.2.2.1))))]) (((0 + u18.2.2.2.2.1.toNat) * 9) + 6) [(AV.v (.int .i64 (i64 ((i64 ((i64 (1000 + (i64 (400 * u18.2.2.1)))) + u18.2.2.2.2.1)) + 2))))]) (((0 + u18.2.2.2.2.1.toNat) * 9) + 7) [(AV.v (.int .i64 7))]).map dat0), (u18.2.2.2.2.2.2.2.2.2.map dat0))) else none) else none) else none) else none) else none) | false => (ke (u18.1, u18.2.1, u18.2.2.1, u18.2.2.2.2.2.1, u18.2.2.2.2.2.2.1, u18.2.2.2.2.2.2.2.1, (u18.2.2.2.2.2.2.2.2.1.map dat0), (u18.2.2.2.2.2.2.2.2.2.map dat0))))
abbrev zyd (N : Nat) (x : Int × Nat × Int × Int × Int × qL × Int × zub × qA × qA) : Option ((Int × Nat × Int × qL × Int × zub × qA × qA)) := (zaF N).L N x
def zc6 (N : Nat) : LSpec where
 X := Nat × Int × Int × qL × Int × qA
 Y := (Nat × qL × Int × qA)
 p := λ s => rdS 86 1 [(5, .vs0 1000005 25), (0, .ptr 0 0), (1, .int .i64), (6, .int .i64)] [(0, .cells [.lst 1, .int .i64]), (1000005, .tt)] s λ ⟨a0, _, a1, a2, _⟩ ⟨⟨a3, a4, _⟩, a5, _⟩ => (a0, a1, a2, a3, a4, a5)
 st := λ u5 => mkS 86 [(5, (AV.vs 1000005 0 u5.1 25)), (0, (AV.ptr 0 0)), (1, (qI u5.2.1)), (6, (qI u5.2.2.1))] [(0, [(AV.list 1 u5.2.2.2.1 none), (qI u5.2.2.2.2.1)]), (1000005, u5.2.2.2.2.2)] (JJ 5).1.toks 1
 out := λ y => (.exit 0, mkS 86 [(5, (AV.vs 1000005 0 y.1 25))] [(0, [(AV.list 1 y.2.1 none), (qI y.2.2.1)]), (1000005, y.2.2.2)] (JJ 5).2.toks 1)
 b := λ u5 α kn ke => (match (decide (u5.2.2.1 < u5.2.1)) with | true => (match Jk N (3, u5.2.2.2.1, u5.2.2.2.2.1) with | some y6 => (match (y6.1 == 0) with | true => (kn (u5.1, u5.2.1, (i64 (u5.2.2.1 + 1)), y6.2.1, y6.2.2, (u5.2.2.2.2.2.map dat0))) | false => (match zzK N (1, y6.2) with | some y7 => (match zyd N (u5.2.1, u5.1, u5.2.2.1, ((y7.1.2.2.2.2.2.2.2.2.2.1 : Nat) : Int), 0, y7.2.1, y7.2.2.1, y7.1, ((y7.2.2.2.map dat0).map dat0), (u5.2.2.2.2.2.map dat0)) with | some y8 => (match Jk N (2, y8.2.2.2.1, y8.2.2.2.2.1) with | some y9 => (if 0 <= (if (i64 (((y8.2.2.2.2.2.1.2.2.2.2.2.2.2.2.2.1 : Nat) : Int) - 1)) < y9.1 then (i64 (((y8.2.2.2.2.2.1.2.2.2.2.2.2.2.2.2.1 : Nat) : Int) - 1)) else y9.1) /\ (if (i64 (((y8.2.2.2.2.2.1.2.2.2.2.2.2.2.2.2.1 : Nat) : Int) - 1)) < y9.1 then (i64 (((y8.2.2.2.2.2.1.2.2.2.2.2.2.2.2.2.1 : Nat) : Int) - 1)) else y9.1) <= (y8.2.2.2.2.2.1.2.2.2.2.2.2.2.2.2.1 : Int) then (if 0 <= (0 : Int) /\ (0 : Int) < (((y8.2.2.2.2.2.1.2.2.2.2.2.2.2.2.2.1 - (if (i64 (((y8.2.2.2.2.2.1.2.2.2.2.2.2.2.2.2.1 : Nat) : Int) - 1)) < y9.1 then (i64 (((y8.2.2.2.2.2.1.2.2.2.2.2.2.2.2.2.1 : Nat) : Int) - 1)) else y9.1).toNat) : Nat) : Int) then (match Jy (y8.2.2.2.2.2.2.1.drop (((0 + (if (i64 (((y8.2.2.2.2.2.1.2.2.2.2.2.2.2.2.2.1 : Nat) : Int) - 1)) < y9.1 then (i64 (((y8.2.2.2.2.2.1.2.2.2.2.2.2.2.2.2.1 : Nat) : Int) - 1)) else y9.1).toNat) + (0 : Int).toNat) * 9)) with | some e10 => (if (y8.2.2.2.2.2.1.2.2.2.2.2.2.2.2.2.1 - (if (i64 (((y8.2.2.2.2.2.1.2.2.2.2.2.2.2.2.2.1 : Nat) : Int) - 1)) < y9.1 then (i64 (((y8.2.2.2.2.2.1.2.2.2.2.2.2.2.2.2.1 : Nat) : Int) - 1)) else y9.1).toNat) * 9 <= (J5 (0 + (if (i64 (((y8.2.2.2.2.2.1.2.2.2.2.2.2.2.2.2.1 : Nat) : Int) - 1)) < y9.1 then (i64 (((y8.2.2.2.2.2.1.2.2.2.2.2.2.2.2.2.1 : Nat) : Int) - 1)) else y9.1).toNat) 9 y8.2.2.2.2.2.2.1).length then (if y8.2.1 * 25 <= y8.2.2.2.2.2.2.2.length /\ (y8.2.1 + [(zB (e10.1, e10.2.1, e10.2.2.1, e10.2.2.2.1, e10.2.2.2.2.1, e10.2.2.2.2.2.1, e10.2.2.2.2.2.2.1, e10.2.2.2.2.2.2.2.1, e10.2.2.2.2.2.2.2.2.1, (zK ((J5 (0 + (if (i64 (((y8.2.2.2.2.2.1.2.2.2.2.2.2.2.2.2.1 : Nat) : Int) - 1)) < y9.1 then (i64 (((y8.2.2.2.2.2.1.2.2.2.2.2.2.2.2.2.1 : Nat) : Int) - 1)) else y9.1).toNat) 9 y8.2.2.2.2.2.2.1).take ((y8.2.2.2.2.2.1.2.2.2.2.2.2.2.2.2.1 - (if (i64 (((y8.2.2.2.2.2.1.2.2.2.2.2.2.2.2.2.1 : Nat) : Int) - 1)) < y9.1 then (i64 (((y8.2.2.2.2.2.1.2.2.2.2.2.2.2.2.2.1 : Nat) : Int) - 1)) else y9.1).toNat) * 9)) 9 (y8.2.2.2.2.2.1.2.2.2.2.2.2.2.2.2.1 - (if (i64 (((y8.2.2.2.2.2.1.2.2.2.2.2.2.2.2.2.1 : Nat) : Int) - 1)) < y9.1 then (i64 (((y8.2.2.2.2.2.1.2.2.2.2.2.2.2.2.2.1 : Nat) : Int) - 1)) else y9.1).toNat)), y8.2.2.2.2.2.1.2.2.2.2.2.2.2.2.2.2))].length) * 248 <= zg then (kn ((y8.2.1 + [(zB (e10.1, e10.2.1, e10.2.2.1, e10.2.2.2.1, e10.2.2.2.2.1, e10.2.2.2.2.2.1, e10.2.2.2.2.2.2.1, e10.2.2.2.2.2.2.2.1, e10.2.2.2.2.2.2.2.2.1, (zK ((J5 (0 + (if (i64 (((y8.2.2.2.2.2.1.2.2.2.2.2.2.2.2.2.1 : Nat) : Int) - 1)) < y9.1 then (i64 (((y8.2.2.2.2.2.1.2.2.2.2.2.2.2.2.2.1 : Nat) : Int) - 1)) else y9.1).toNat) 9 y8.2.2.2.2.2.2.1).take ((y8.2.2.2.2.2.1.2.2.2.2.2.2.2.2.2.1 - (if (i64 (((y8.2.2.2.2.2.1.2.2.2.2.2.2.2.2.2.1 : Nat) : Int) - 1)) < y9.1 then (i64 (((y8.2.2.2.2.2.1.2.2.2.2.2.2.2.2.2.1 : Nat) : Int) - 1)) else y9.1).toNat) * 9)) 9 (y8.2.2.2.2.2.1.2.2.2.2.2.2.2.2.2.1 - (if (i64 (((y8.2.2.2.2.2.1.2.2.2.2.2.2.2.2.2.1 : Nat) : Int) - 1)) < y9.1 then (i64 (((y8.2.2.2.2.2.1.2.2.2.2.2.2.2.2.2.1 : Nat) : Int) - 1)) else y9.1).toNat)), y8.2.2.2.2.2.1.2.2.2.2.2.2.2.2.2.2))].length), y8.1, (i64 (y8.2.2.1 + 1)), y9.2.1, y9.2.2, ((y8.2.2.2.2.2.2.2.take (y8.2.1 * 25) ++ [(zB (e10.1, e10.2.1, e10.2.2.1, e10.2.2.2.1, e10.2.2.2.2.1, e10.2.2.2.2.2.1, e10.2.2.2.2.2.2.1, e10.2.2.2.2.2.2.2.1, e10.2.2.2.2.2.2.2.2.1, (zK ((J5 (0 + (if (i64 (((y8.2.2.2.2.2.1.2.2.2.2.2.2.2.2.2.1 : Nat) : Int) - 1)) < y9.1 then (i64 (((y8.2.2.2.2.2.1.2.2.2.2.2.2.2.2.2.1 : Nat) : Int) - 1)) else y9.1).toNat) 9 y8.2.2.2.2.2.2.1).take ((y8.2.2.2.2.2.1.2.2.2.2.2.2.2.2.2.1 - (if (i64 (((y8.2.2.2.2.2.1.2.2.2.2.2.2.2.2.2.1 : Nat) : Int) - 1)) < y9.1 then (i64 (((y8.2.2.2.2.2.1.2.2.2.2.2.2.2.2.2.1 : Nat) : Int) - 1)) else y9.1).toNat) * 9)) 9 (y8.2.2.2.2.2.1.2.2.2.2.2.2.2.2.2.1 - (if (i64 (((y8.2.2.2.2.2.1.2.2.2.2.2.2.2.2.2.1 : Nat) : Int) - 1)) < y9.1 then (i64 (((y8.2.2.2.2.2.1.2.2.2.2.2.2.2.2.2.1 : Nat) : Int) - 1)) else y9.1).toNat)), y8.2.2.2.2.2.1.2.2.2.2.2.2.2.2.2.2))].flatten).map dat0))) else none) else none) | none => none) else none) else none) | none => none) | none => none) | none => none)) | none => none) | false => (ke (u5.1, u5.2.2.2.1, u5.2.2.2.2.1, (u5.2.2.2.2.2.map dat0))))
abbrev zBd (N : Nat) (x : Nat × Int × Int × qL × Int × qA) : Option ((Nat × qL × Int × qA)) := (zc6 N).L N x
def zoS (N : Nat) : FSpec where
 X := Int × qL × Int
 Y := qL × qL × Int
 ash := [[none], [none]]
 bsh := [[some 1, none]]
 S := ⟨[[some 2000025]], [[some 1, none]], [], [], []⟩
 pat := λ a b => rdA [.ptr 0 0, .int .i64] [.cells [.lst 1, .int .i64]] a b λ ⟨_, a0, _⟩ ⟨⟨a1, a2, _⟩, _⟩ => (a0, a1, a2)
 args := λ x => [(AV.ptr 0 0), (AV.v (.int .i64 x.1))]
 bs := λ x => [[(AV.list 1 x.2.1 none), (AV.v (.int .i64 x.2.2))]]
 ret := λ y => ⟨(AV.list 25 y.1 (some 2560000000)), [[(AV.list 1 y.2.1 none), (AV.v (.int .i64 y.2.2))]], none, [], [2560000000], [], none⟩
 t := λ x α k => (match zBd N (0, x.1, 0, x.2.1, x.2.2, ([] : List AV)) with | some y11 => (if y11.1 * 25 <= y11.2.2.2.length then (k ((zK (y11.2.2.2.take (y11.1 * 25)) 25 y11.1), y11.2.1, y11.2.2.1)) else none) | none => none)
abbrev zt6 (N : Nat) (x : Int × qL × Int) : Option (qL × qL × Int) := (zoS N).d x
def zbW (N : Nat) : List (Nat × LSpec) := [(5, zc6 N), (18, zaF N)]
def zfm : Code := Tryd.f9.body.getD .skip
theorem zoR (N : Nat) : Par (zaF N).b := by
 intro x α β kn ke kn' ke' r r' h h1 h2
 revert h
 dsimp only [zaF]
 (repeat' (first | (with_reducible refine ze ?_ ?_) | split)) <;> intro h <;> first | exact h1 _ h | exact h2 _ h | cases h
theorem zkX (N : Nat) : Z3 (JQ qP [19, 84]) (zye N) JJ N (zbW N) 18 zfm (zaF N) := λ x α kn ke => by kernel_rfl
theorem zey (N : Nat) : ZB qP JJ N (zbW N) 18 (zb 18 zfm) :=
 zD (zL qP [19, 84]) (zh _) zk JJ N (zbW N) 18 zfm (l := []) (by kernel_rfl) (by kernel_rfl) an (zaF N) rfl (λ s x hc h => by dsimp only [zaF] at h; exact zG hc h (λ _ _ => rfl) rfl rfl rfl) (λ _ => rfl) (zkX N) (zoR N)
theorem zt7 (N : Nat) : Par (zc6 N).b := by
 intro x α β kn ke kn' ke' r r' h h1 h2
 revert h
 dsimp only [zc6]
 (repeat' (first | (with_reducible refine ze ?_ ?_) | split)) <;> intro h <;> first | exact h1 _ h | exact h2 _ h | cases h
theorem zoP (N : Nat) : Z3 (JQ qP [19, 84]) (zye N) JJ N (zbW N) 5 zfm (zc6 N) := λ x α kn ke => by kernel_rfl
theorem zoQ (N : Nat) : ZB qP JJ N (zbW N) 5 (zb 5 zfm) :=
 zD (zL qP [19, 84]) (zh _) zk JJ N (zbW N) 5 zfm (l := [(18, zb 18 zfm)]) (by kernel_rfl) (by kernel_rfl) (al (zey N) an) (zc6 N) rfl (λ s x hc h => by dsimp only [zc6] at h; exact zG hc h (λ _ _ => rfl) rfl rfl rfl) (λ _ => rfl) (zoP N) (zt7 N)
theorem zt8 (N : Nat) : Zd (zoS N).t := by
 intro x α β k k' r r' h h1
 revert h
 dsimp only [zoS]
 (repeat' (first | (with_reducible refine ze ?_ ?_) | split)) <;> intro h <;> first | exact h1 _ h | cases h
theorem zt9 (N : Nat) : Zg (JQ qP [19, 84]) (zye N) JJ (lam N (zbW N)) Tryd.f9 (zoS N) := λ x => by kernel_rfl
def zBe (N : Nat) : Ent qP := zA (zL qP [19, 84]) (zh _) zk 9 Tryd.f9 Tryd.func9 rfl JJ (lam N (zbW N)) (zm (l := [(5, zb 5 zfm), (18, zb 18 zfm)]) (al (zoQ N) (al (zey N) an)) (by kernel_rfl)) (zoS N) (λ _ => ⟨rfl, rfl⟩) (zt9 N) (λ _ _ _ h => zw h (λ _ _ => rfl) (λ _ _ => rfl)) (zt8 N)
def zmi : Nat -> Keep × Keep := anL []
def zzO (N : Nat) : GamK := gam (P := qP) [zhB N]
def zf9 (N : Nat) : FSpec where
 X := qL × qL × Int
 Y := ByteArray × qL × Int
 ash := [[none], [some 1]]
 bsh := [[some 1, none]]
 S := ⟨[[none]], [[some 1, none]], [], [], []⟩
 pat := λ a b => rdA [.ptr 0 0, .lst 1] [.cells [.lst 1, .int .i64]] a b λ ⟨_, a0, _⟩ ⟨⟨a1, a2, _⟩, _⟩ => (a0, a1, a2)
 args := λ x => [(AV.ptr 0 0), (AV.list 1 x.1 none)]
 bs := λ x => [[(AV.list 1 x.2.1 none), (AV.v (.int .i64 x.2.2))]]
 ret := λ y => ⟨(AV.v (.string y.1)), [[(AV.list 1 y.2.1 none), (AV.v (.int .i64 y.2.2))]], none, [], [], [], none⟩
 t := λ x α k => (match Jk N ((x.1.length : Int), x.2) with | some y1 => (if 0 <= y1.1 then (match x.1[y1.1.toNat]? with | some c2 => (match c2[0]? with | some x3 => (match x3 with | .v (.string s4) => (k (s4, y1.2)) | _ => none) | none => none) | none => none) else none) | none => none)
abbrev ziz (N : Nat) (x : qL × qL × Int) : Option (ByteArray × qL × Int) := (zf9 N).d x
theorem zmj (N : Nat) : Zd (zf9 N).t := by
 intro x α β k k' r r' h h1
 revert h
 dsimp only [zf9]
 (repeat' (first | (with_reducible refine ze ?_ ?_) | split)) <;> intro h <;> first | exact h1 _ h | cases h
theorem zmk (N : Nat) : Zg (zn qP) (zzO N) zmi (lam N []) Tryd.f27 (zf9 N) := λ x => by kernel_rfl
def zzN (N : Nat) : Ent qP := zA (zc qP) (zh _) zk 27 Tryd.f27 Tryd.func27 rfl zmi (lam N []) (zm (l := []) an (by kernel_rfl)) (zf9 N) (λ _ => ⟨rfl, rfl⟩) (zmk N) (λ _ _ _ h => zw h (λ _ _ => rfl) (λ _ _ => rfl)) (zmj N)
def zc0 : Nat -> Keep × Keep := anL [(6, ⟨[0, 1, 4, 6, 7, 8], [], [0, 4, 6], [], [((4, 0), 1)], [], [], [], false, none, [((6, 0), 1)]⟩, ⟨[4, 6, 7], [], [0, 4, 6], [], [((4, 0), 1)], [], [], [], false, none, [((6, 0), 1)]⟩)]
def zAP (N : Nat) : GamK := gam (P := qP) [zhB N, zBe N, zzN N, zCG N, zCI N, zCK N, zCM N, zCO N]
def zc1 (N : Nat) : LSpec where
 X := Int × Int × Int × qL × Int × qL × qL
 Y := (Int × qL × Int × qL × qL)
 p := λ s => rdS 111 1 [(0, .ptr 0 0), (1, .int .i64), (4, .ptr 4 0), (6, .ptr 6 0), (7, .int .i64), (8, .int .i64)] [(0, .cells [.lst 1, .int .i64]), (4, .cells [.tok 1 6401048576]), (6, .cells [.lst 1])] s λ ⟨_, a0, _, _, a1, a2, _⟩ ⟨⟨a3, a4, _⟩, ⟨a5, _⟩, ⟨a6, _⟩, _⟩ => (a0, a1, a2, a3, a4, a5, a6)
 st := λ u6 => mkS 111 [(0, (AV.ptr 0 0)), (1, (qI u6.1)), (4, (AV.ptr 4 0)), (6, (AV.ptr 6 0)), (7, (qI u6.2.1)), (8, (qI u6.2.2.1))] [(0, [(AV.list 1 u6.2.2.2.1 none), (qI u6.2.2.2.2.1)]), (4, [(AV.list 1 u6.2.2.2.2.2.1 (some 6401048576))]), (6, [(AV.list 1 u6.2.2.2.2.2.2 none)])] (zc0 6).1.toks 1
 out := λ y => (.exit 0, mkS 111 [(4, (AV.ptr 4 0)), (6, (AV.ptr 6 0)), (7, (qI y.1))] [(0, [(AV.list 1 y.2.1 none), (qI y.2.2.1)]), (4, [(AV.list 1 y.2.2.2.1 (some 6401048576))]), (6, [(AV.list 1 y.2.2.2.2 none)])] (zc0 6).2.toks 1)
 b := λ u6 α kn ke => (match (decide (u6.2.2.1 < u6.1)) with | true => (match Jk N (50, u6.2.2.2.1, u6.2.2.2.2.1) with | some y19 => (match Jk N ((if (u6.2.2.2.2.2.2.length : Int) > 1 then (u6.2.2.2.2.2.2.length : Int) else 1), y19.2) with | some y20 => (match Jk N (8, y20.2) with | some y21 => (match (y21.1 == 0) with | true => (match zt6 N (4, y21.2) with | some y22 => (match (decide ((y22.1.length : Int) > 0)) with | true => (match ziz N ([[(AV.v (.string (⟨#[97, 110, 110]⟩ : ByteArray)))], [(AV.v (.string (⟨#[98, 111, 98]⟩ : ByteArray)))]], y22.2) with | some y23 => (match Jk N ((y22.1.length : Int), y23.2) with | some y24 => (if 0 <= y24.1 then (match y22.1[y24.1.toNat]? with | some c25 => (match zhD c25 with | some e26 => (match zxi N (u6.2.2.2.2.2.2, y20.1, y23.1, e26, (i64 (u6.2.1 + y19.1))) with | some y27 => (match (y27.2 == 0) with | true => (kn (u6.1, (i64 (u6.2.1 + y19.1)), (i64 (u6.2.2.1 + 1)), y24.2.1, y24.2.2, u6.2.2.2.2.2.1, y27.1)) | false => (kn (u6.1, (i64 (u6.2.1 + y19.1)), (i64 (u6.2.2.1 + 1)), y24.2.1, y24.2.2, u6.2.2.2.2.2))) | none => none) | none => none) | none => none) else none) | none => none) | none => none) | false => (match (0 == 0) with | true => (kn (u6.1, (i64 (u6.2.1 + y19.1)), (i64 (u6.2.2.1 + 1)), y22.2.1, y22.2.2, u6.2.2.2.2.2)) | false => (kn (u6.1, (i64 (u6.2.1 + y19.1)), (i64 (u6.2.2.1 + 1)), y22.2.1, y22.2.2, u6.2.2.2.2.2)))) | none => none) | false => (match (y21.1 == 1) with | true => (match ziz N ([[(AV.v (.string (⟨#[97, 110, 110]⟩ : ByteArray)))], [(AV.v (.string (⟨#[98, 111, 98]⟩ : ByteArray)))]], y21.2) with | some y28 => (match zxl N (u6.2.2.2.2.2.2, y20.1, y28.1, (i64 (u6.2.1 + y19.1))) with | some y29 => (match (y29.2 == 0) with | true => (kn (u6.1, (i64 (u6.2.1 + y19.1)), (i64 (u6.2.2.1 + 1)), y28.2.1, y28.2.2, u6.2.2.2.2.2.1, y29.1)) | false => (kn (u6.1, (i64 (u6.2.1 + y19.1)), (i64 (u6.2.2.1 + 1)), y28.2.1, y28.2.2, u6.2.2.2.2.2))) | none => none) | none => none) | false => (match (y21.1 == 2) with | true => (match Jk N ((if (u6.2.2.2.2.2.2.length : Int) > 1 then (u6.2.2.2.2.2.2.length : Int) else 1), y21.2) with | some y30 => (match ziz N ([[(AV.v (.string (⟨#[97, 110, 110]⟩ : ByteArray)))], [(AV.v (.string (⟨#[98, 111, 98]⟩ : ByteArray)))]], y30.2) with | some y31 => (match zxn N (u6.2.2.2.2.2.2, y20.1, y30.1, y31.1, (i64 (u6.2.1 + y19.1))) with | some y32 => (match (y32.2 == 0) with | true => (kn (u6.1, (i64 (u6.2.1 + y19.1)), (i64 (u6.2.2.1 + 1)), y31.2.1, y31.2.2, u6.2.2.2.2.2.1, y32.1)) | false => (kn (u6.1, (i64 (u6.2.1 + y19.1)), (i64 (u6.2.2.1 + 1)), y31.2.1, y31.2.2, u6.2.2.2.2.2))) | none => none) | none => none) | none => none) | false => (match (y21.1 == 3) with | true => (match ziz N ([[(AV.v (.string (⟨#[97, 110, 110]⟩ : ByteArray)))], [(AV.v (.string (⟨#[98, 111, 98]⟩ : ByteArray)))]], y21.2) with | some y33 => (match zxp N (u6.2.2.2.2.2.2, y20.1, y33.1, (i64 (u6.2.1 + y19.1))) with | some y34 => (match (y34.2 == 0) with | true => (kn (u6.1, (i64 (u6.2.1 + y19.1)), (i64 (u6.2.2.1 + 1)), y33.2.1, y33.2.2, u6.2.2.2.2.2.1, y34.1)) | false => (kn (u6.1, (i64 (u6.2.1 + y19.1)), (i64 (u6.2.2.1 + 1)), y33.2.1, y33.2.2, u6.2.2.2.2.2))) | none => none) | none => none) | false => (match zt6 N (4, y21.2) with | some y35 => (match zqW N (u6.2.2.2.2.2.2, y35.1, (i64 (u6.2.1 + y19.1))) with | some y36 => (match (y36.2.2 == 0) with | true => (kn (u6.1, (i64 (u6.2.1 + y19.1)), (i64 (u6.2.2.1 + 1)), y35.2.1, y35.2.2, u6.2.2.2.2.2.1, y36.1)) | false => (kn (u6.1, (i64 (u6.2.1 + y19.1)), (i64 (u6.2.2.1 + 1)), y35.2.1, y35.2.2, u6.2.2.2.2.2))) | none => none) | none => none))))) | none => none) | none => none) | none => none) | false => (ke (u6.2.1, u6.2.2.2)))
abbrev zAO (N : Nat) (x : Int × Int × Int × qL × Int × qL × qL) : Option ((Int × qL × Int × qL × qL)) := (zc1 N).L N x
def zoi (N : Nat) : FSpec where
 X := Int × qL × Int
 Y := qL × Int × qL × Int
 ash := [[none], [none]]
 bsh := [[some 1, none]]
 S := ⟨[[some 1], [none]], [[some 1, none]], [], [], []⟩
 pat := λ a b => rdA [.ptr 0 0, .int .i64] [.cells [.lst 1, .int .i64]] a b λ ⟨_, a0, _⟩ ⟨⟨a1, a2, _⟩, _⟩ => (a0, a1, a2)
 args := λ x => [(AV.ptr 0 0), (AV.v (.int .i64 x.1))]
 bs := λ x => [[(AV.list 1 x.2.1 none), (AV.v (.int .i64 x.2.2))]]
 ret := λ y => ⟨(AV.tup [(AV.agg [(AV.list 1 y.1 none)]), (AV.v (.int .i64 y.2.1))]), [[(AV.list 1 y.2.2.1 none), (AV.v (.int .i64 y.2.2.2))]], none, [], [], [], none⟩
 t := λ x α k => (match zAO N (x.1, 100, 0, x.2.1, x.2.2, ([] : qL), ([] : qL)) with | some y37 => (k (y37.2.2.2.2, y37.1, y37.2.1, y37.2.2.1)) | none => none)
abbrev zAN (N : Nat) (x : Int × qL × Int) : Option (qL × Int × qL × Int) := (zoi N).d x
def zgt (N : Nat) : List (Nat × LSpec) := [(6, zc1 N)]
def zs7 : Code := Tryd.f7.body.getD .skip
theorem zs8 (N : Nat) : Par (zc1 N).b := by
 intro x α β kn ke kn' ke' r r' h h1 h2
 revert h
 dsimp only [zc1]
 (repeat' (first | (with_reducible refine ze ?_ ?_) | split)) <;> intro h <;> first | exact h1 _ h | exact h2 _ h | cases h
theorem zog (N : Nat) : Z3 (zn qP) (zAP N) zc0 N (zgt N) 6 zs7 (zc1 N) := λ x α kn ke => by kernel_rfl
theorem zoh (N : Nat) : ZB qP zc0 N (zgt N) 6 (zb 6 zs7) :=
 zD (zc qP) (zh _) zk zc0 N (zgt N) 6 zs7 (l := []) (by kernel_rfl) (by kernel_rfl) an (zc1 N) rfl (λ s x hc h => by dsimp only [zc1] at h; exact zG hc h (λ _ _ => rfl) rfl rfl rfl) (λ _ => rfl) (zog N) (zs8 N)
theorem zs9 (N : Nat) : Zd (zoi N).t := by
 intro x α β k k' r r' h h1
 revert h
 dsimp only [zoi]
 (repeat' (first | (with_reducible refine ze ?_ ?_) | split)) <;> intro h <;> first | exact h1 _ h | cases h
theorem zta (N : Nat) : Zg (zn qP) (zAP N) zc0 (lam N (zgt N)) Tryd.f7 (zoi N) := λ x => by kernel_rfl
def zDD (N : Nat) : Ent qP := zA (zc qP) (zh _) zk 7 Tryd.f7 Tryd.func7 rfl zc0 (lam N (zgt N)) (zm (l := [(6, zb 6 zs7)]) (al (zoh N) an) (by kernel_rfl)) (zoi N) (λ _ => ⟨rfl, rfl⟩) (zta N) (λ _ _ _ h => zw h (λ _ _ => rfl) (λ _ _ => rfl)) (zs9 N)
def zvE : Nat -> Keep × Keep := anL []
def zCB (N : Nat) : GamK := gam (P := qP) [zz7 N]
def zjT (N : Nat) : FSpec where
 X := RT0 × RT0
 Y := Bool
 ash := [[none, none, none, none, none, none, none, none, none, some 9, none, none, none, none, none, none, none, none, none, none, none, none, none, none, none], [none, none, none, none, none, none, none, none, none, some 9, none, none, none, none, none, none, none, none, none, none, none, none, none, none, none]]
 S := ⟨[[none]], [], [], [], []⟩
 pat := λ a b => rdA [.agg RK0, .agg RK0] [] a b λ ⟨a0, a1, _⟩ _ => (a0, a1)
 args := λ x => [(AV.agg (zB x.1)), (AV.agg (zB x.2))]
 ret := λ y => ⟨(AV.v (.bool y)), [], none, [], [], [], none⟩
 t := λ x α k => (match (((x.1.1 == x.2.1) && ((x.1.2.1 == x.2.2.1) && ((x.1.2.2.1 == x.2.2.2.1) && ((x.1.2.2.2.1 == x.2.2.2.2.1) && true)))) && ((x.1.2.2.2.2.1 == x.2.2.2.2.2.1) && ((x.1.2.2.2.2.2.1 == x.2.2.2.2.2.2.1) && ((x.1.2.2.2.2.2.2.1 == x.2.2.2.2.2.2.2.1) && ((x.1.2.2.2.2.2.2.2.1 == x.2.2.2.2.2.2.2.2.1) && ((x.1.2.2.2.2.2.2.2.2.1 == x.2.2.2.2.2.2.2.2.2.1) && true)))))) with | true => (match zm3 N ((zC x.1), (zC x.2)) with | some y1 => (k y1) | none => none) | false => (k false))
abbrev zqH (N : Nat) (x : RT0 × RT0) : Option (Bool) := (zjT N).d x
theorem zqI (N : Nat) : Zd (zjT N).t := by
 intro x α β k k' r r' h h1
 revert h
 dsimp only [zjT]
 (repeat' (first | (with_reducible refine ze ?_ ?_) | split)) <;> intro h <;> first | exact h1 _ h | cases h
theorem zqJ (N : Nat) : Zg (zn qP) (zCB N) zvE (lam N []) Tryd.f19 (zjT N) := λ x => by kernel_rfl
def zCA (N : Nat) : Ent qP := zA (zc qP) (zh _) zk 19 Tryd.f19 Tryd.func19 rfl zvE (lam N []) (zm (l := []) an (by kernel_rfl)) (zjT N) (λ _ => ⟨rfl, rfl⟩) (zqJ N) (λ _ _ _ h => zw h (λ _ _ => rfl) (λ _ _ => rfl)) (zqI N)
def Z0 : Nat -> Keep × Keep := anL [(14, ⟨[4, 5, 7, 11, 64, 65], [], [4, 7, 62], [(6, 25), (8, 1), (10, 1)], [], [], [], [62], false, none, []⟩, ⟨[4, 5, 7, 11], [], [4, 7, 62], [(6, 25), (8, 1), (10, 1)], [], [], [], [62], false, none, []⟩), (24, ⟨[4, 5, 7, 11, 73, 74], [], [4, 7, 62], [(6, 25), (8, 1), (72, 1)], [], [], [], [62], false, none, []⟩, ⟨[2, 5, 7, 11], [], [7, 62], [(6, 25), (8, 1)], [], [], [], [62], false, none, []⟩), (41, ⟨[5, 7, 11, 15, 105, 106], [], [7, 62], [(6, 25), (8, 1), (104, 1)], [], [], [], [62], false, none, []⟩, ⟨[2, 5, 7, 11, 15], [], [7, 62], [(8, 1)], [], [], [], [62], false, none, []⟩), (60, ⟨[5, 7, 11, 15, 148, 149], [], [7, 62], [(8, 1)], [], [], [], [62], false, none, []⟩, ⟨[5, 7, 15], [], [7], [(8, 1)], [], [], [], [], false, none, []⟩), (72, ⟨[5, 7, 15, 160, 161], [], [7], [(8, 1), (159, 1)], [], [], [], [], false, none, []⟩, qK [2, 15] [] [])]
def zzm (N : Nat) : GamK := gam (P := qP) [F6_e N, zhB N, zDD N, zBe N, zzE N, zzG N, zqr N, zl8 N, zqv N, zzH N, zzI N, zCA N, zCu N]
def jF (N : Nat) : LSpec where
 X := qL × qL × Int × Int × Int × Int × qL
 Y := (Bool × Int) ⊕ (Int)
 p := λ s => rdS 205 0 [(8, .lst 1), (159, .lst 1), (5, .int .i64), (7, .ptr 7 0), (15, .int .i64), (160, .int .i64), (161, .int .i64)] [(7, .cells [.lst 1])] s λ ⟨a0, a1, a2, _, a3, a4, a5, _⟩ ⟨⟨a6, _⟩, _⟩ => (a0, a1, a2, a3, a4, a5, a6)
 st := λ u72 => mkS 205 [(8, (AV.list 1 u72.1 none)), (159, (AV.list 1 u72.2.1 none)), (5, (qI u72.2.2.1)), (7, (AV.ptr 7 0)), (15, (qI u72.2.2.2.1)), (160, (qI u72.2.2.2.2.1)), (161, (qI u72.2.2.2.2.2.1))] [(7, [(AV.list 1 u72.2.2.2.2.2.2 none)])] (Z0 72).1.toks 0
 out := λ y => match y with
  | .inl y => (.ret, mkS 205 [(2, (AV.v (.bool y.1))), (15, (qI y.2))] [] (Z0 72).2.toks 0)
  | .inr y => (.exit 8, mkS 205 [(15, (qI y))] [] (Z0 72).2.toks 0)
 b := λ u72 α kn ke => (match (decide (u72.2.2.2.2.2.1 < u72.2.2.2.2.1)) with | true => (if 0 <= u72.2.2.2.2.2.1 then (match u72.2.1[u72.2.2.2.2.2.1.toNat]? with | some c58 => (match c58[0]? with | some x59 => (match x59 with | .v (.int q61 n60) => (if q61 = .i64 then (match (decide (n60 < 0)) with | true => (ke (.inl (false, u72.2.2.2.1))) | false => (match (decide (n60 >= (u72.2.2.2.2.2.2.length : Int))) with | true => (ke (.inl (false, u72.2.2.2.1))) | false => (match (decide (u72.2.2.2.2.2.1 > 0)) with | true => (if 0 <= (i64 (u72.2.2.2.2.2.1 - 1)) then (match u72.1[(i64 (u72.2.2.2.2.2.1 - 1)).toNat]? with | some c62 => (match c62[0]? with | some x63 => (match x63 with | .v (.int q65 n64) => (if q65 = .i64 then (match (decide (n64 >= n60)) with | true => (ke (.inl (false, u72.2.2.2.1))) | false => (if 0 <= n60 then (match u72.2.2.2.2.2.2[n60.toNat]? with | some c66 => (match zdO c66 with | some e67 => (match zcH N e67.1 with | some y68 => (match (y68.2.1 != u72.2.2.1) with | true => (ke (.inl (false, u72.2.2.2.1))) | false => (kn (u72.1, u72.2.1, u72.2.2.1, u72.2.2.2.1, u72.2.2.2.2.1, (i64 (u72.2.2.2.2.2.1 + 1)), u72.2.2.2.2.2.2))) | none => none) | none => none) | none => none) else none)) else none) | _ => none) | none => none) | none => none) else none) | false => (if 0 <= n60 then (match u72.2.2.2.2.2.2[n60.toNat]? with | some c69 => (match zdO c69 with | some e70 => (match zcH N e70.1 with | some y71 => (match (y71.2.1 != u72.2.2.1) with | true => (ke (.inl (false, u72.2.2.2.1))) | false => (kn (u72.1, u72.2.1, u72.2.2.1, u72.2.2.2.1, u72.2.2.2.2.1, (i64 (u72.2.2.2.2.2.1 + 1)), u72.2.2.2.2.2.2))) | none => none) | none => none) | none => none) else none)))) else none) | _ => none) | none => none) | none => none) else none) | false => (ke (.inr u72.2.2.2.1)))
abbrev zv7 (N : Nat) (x : qL × qL × Int × Int × Int × Int × qL) : Option ((Bool × Int) ⊕ (Int)) := (jF N).L N x
def ZZ (N : Nat) : LSpec where
 X := qL × Int × Nat × Int × Int × Int × qL × qA
 Y := (qL × Int × Int × qL)
 p := λ s => rdS 205 0 [(8, .lst 1), (5, .int .i64), (7, .ptr 7 0), (11, .vs0 62 1), (15, .int .i64), (148, .int .i64), (149, .int .i64)] [(7, .cells [.lst 1]), (62, .tt)] s λ ⟨a0, a1, _, a2, a3, a4, a5, _⟩ ⟨⟨a6, _⟩, a7, _⟩ => (a0, a1, a2, a3, a4, a5, a6, a7)
 st := λ u60 => mkS 205 [(8, (AV.list 1 u60.1 none)), (5, (qI u60.2.1)), (7, (AV.ptr 7 0)), (11, (AV.vs 62 0 u60.2.2.1 1)), (15, (qI u60.2.2.2.1)), (148, (qI u60.2.2.2.2.1)), (149, (qI u60.2.2.2.2.2.1))] [(7, [(AV.list 1 u60.2.2.2.2.2.2.1 none)]), (62, u60.2.2.2.2.2.2.2)] (Z0 60).1.toks 0
 out := λ y => (.exit 6, mkS 205 [(8, (AV.list 1 y.1 none)), (5, (qI y.2.1)), (7, (AV.ptr 7 0)), (15, (qI y.2.2.1))] [(7, [(AV.list 1 y.2.2.2 none)])] (Z0 60).2.toks 0)
 b := λ u60 α kn ke => (match (decide (u60.2.2.2.2.2.1 < u60.2.2.2.2.1)) with | true => (if 0 <= u60.2.2.2.2.2.1 /\ u60.2.2.2.2.2.1 < (u60.2.2.1 : Int) then (match u60.2.2.2.2.2.2.2[((0 + u60.2.2.2.2.2.1.toNat) * 1)]? with | some x55 => (match x55 with | .v (.bool b56) => (match b56 with | true => (kn (u60.1, u60.2.1, u60.2.2.1, (i64 (u60.2.2.2.1 - 1)), u60.2.2.2.2.1, (i64 (u60.2.2.2.2.2.1 + 1)), u60.2.2.2.2.2.2.1, (u60.2.2.2.2.2.2.2.map dat0))) | false => (kn (u60.1, u60.2.1, u60.2.2.1, u60.2.2.2.1, u60.2.2.2.2.1, (i64 (u60.2.2.2.2.2.1 + 1)), u60.2.2.2.2.2.2.1, (u60.2.2.2.2.2.2.2.map dat0)))) | _ => none) | none => none) else none) | false => (ke (u60.1, u60.2.1, u60.2.2.2.1, u60.2.2.2.2.2.2.1)))
abbrev zv6 (N : Nat) (x : qL × Int × Nat × Int × Int × Int × qL × qA) : Option ((qL × Int × Int × qL)) := (ZZ N).L N x
def ZY (N : Nat) : LSpec where
 X := qL × qL × qL × Int × Nat × Int × Int × Int × qL × qA
 Y := (qL × Bool × Int × Nat × Int × qL × qA) ⊕ (qL × Int × Nat × Int × qL × qA)
 p := λ s => rdS 205 0 [(6, .lst 25), (8, .lst 1), (104, .lst 1), (5, .int .i64), (7, .ptr 7 0), (11, .vs0 62 1), (15, .int .i64), (105, .int .i64), (106, .int .i64)] [(7, .cells [.lst 1]), (62, .tt)] s λ ⟨a0, a1, a2, a3, _, a4, a5, a6, a7, _⟩ ⟨⟨a8, _⟩, a9, _⟩ => (a0, a1, a2, a3, a4, a5, a6, a7, a8, a9)
 st := λ u41 => mkS 205 [(6, (AV.list 25 u41.1 none)), (8, (AV.list 1 u41.2.1 none)), (104, (AV.list 1 u41.2.2.1 none)), (5, (qI u41.2.2.2.1)), (7, (AV.ptr 7 0)), (11, (AV.vs 62 0 u41.2.2.2.2.1 1)), (15, (qI u41.2.2.2.2.2.1)), (105, (qI u41.2.2.2.2.2.2.1)), (106, (qI u41.2.2.2.2.2.2.2.1))] [(7, [(AV.list 1 u41.2.2.2.2.2.2.2.2.1 none)]), (62, u41.2.2.2.2.2.2.2.2.2)] (Z0 41).1.toks 0
 out := λ y => match y with
  | .inl y => (.ret, mkS 205 [(8, (AV.list 1 y.1 none)), (2, (AV.v (.bool y.2.1))), (5, (qI y.2.2.1)), (7, (AV.ptr 7 0)), (11, (AV.vs 62 0 y.2.2.2.1 1)), (15, (qI y.2.2.2.2.1))] [(7, [(AV.list 1 y.2.2.2.2.2.1 none)]), (62, y.2.2.2.2.2.2)] (Z0 41).2.toks 0)
  | .inr y => (.exit 4, mkS 205 [(8, (AV.list 1 y.1 none)), (5, (qI y.2.1)), (7, (AV.ptr 7 0)), (11, (AV.vs 62 0 y.2.2.1 1)), (15, (qI y.2.2.2.1))] [(7, [(AV.list 1 y.2.2.2.2.1 none)]), (62, y.2.2.2.2.2)] (Z0 41).2.toks 0)
 b := λ u41 α kn ke => (match (decide (u41.2.2.2.2.2.2.2.1 < u41.2.2.2.2.2.2.1)) with | true => (if 0 <= u41.2.2.2.2.2.2.2.1 then (match u41.2.2.1[u41.2.2.2.2.2.2.2.1.toNat]? with | some c39 => (match zdO c39 with | some e40 => (match zcH N e40.1 with | some y41 => (match ze0 N y41 with | some y42 => (match (!y42) with | true => (kn (u41.1, u41.2.1, u41.2.2.1, u41.2.2.2.1, u41.2.2.2.2.1, u41.2.2.2.2.2.1, u41.2.2.2.2.2.2.1, (i64 (u41.2.2.2.2.2.2.2.1 + 1)), u41.2.2.2.2.2.2.2.2.1, (u41.2.2.2.2.2.2.2.2.2.map dat0))) | false => (match zqA N y41 with | some y43 => (match (!y43) with | true => (kn (u41.1, u41.2.1, u41.2.2.1, u41.2.2.2.1, u41.2.2.2.2.1, u41.2.2.2.2.2.1, u41.2.2.2.2.2.2.1, (i64 (u41.2.2.2.2.2.2.2.1 + 1)), u41.2.2.2.2.2.2.2.2.1, (u41.2.2.2.2.2.2.2.2.2.map dat0))) | false => (match zjR N (u41.1, (zfp y41)) with | some y44 => (match (decide (y44 < 0)) with | true => (ke (.inl (u41.2.1, false, u41.2.2.2.1, u41.2.2.2.2.1, u41.2.2.2.2.2.1, u41.2.2.2.2.2.2.2.2.1, (u41.2.2.2.2.2.2.2.2.2.map dat0)))) | false => (if 0 <= y44 /\ y44 < (u41.2.2.2.2.1 : Int) then (match u41.2.2.2.2.2.2.2.2.2[((0 + y44.toNat) * 1)]? with | some x45 => (match x45 with | .v (.bool b46) => (match (!b46) with | true => (ke (.inl (u41.2.1, false, u41.2.2.2.1, u41.2.2.2.2.1, u41.2.2.2.2.2.1, u41.2.2.2.2.2.2.2.2.1, (u41.2.2.2.2.2.2.2.2.2.map dat0)))) | false => (if 0 <= y44 then (match u41.1[y44.toNat]? with | some c47 => (match zhD c47 with | some e48 => (match zqH N (e48, (zx y41)) with | some y49 => (match (!y49) with | true => (ke (.inl (u41.2.1, false, u41.2.2.2.1, u41.2.2.2.2.1, u41.2.2.2.2.2.1, u41.2.2.2.2.2.2.2.2.1, (u41.2.2.2.2.2.2.2.2.2.map dat0)))) | false => (kn (u41.1, u41.2.1, u41.2.2.1, u41.2.2.2.1, u41.2.2.2.2.1, (i64 (u41.2.2.2.2.2.1 + 1)), u41.2.2.2.2.2.2.1, (i64 (u41.2.2.2.2.2.2.2.1 + 1)), u41.2.2.2.2.2.2.2.2.1, (u41.2.2.2.2.2.2.2.2.2.map dat0)))) | none => none) | none => none) | none => none) else none)) | _ => none) | none => none) else none)) | none => none)) | none => none)) | none => none) | none => none) | none => none) | none => none) else none) | false => (ke (.inr (u41.2.1, u41.2.2.2.1, u41.2.2.2.2.1, u41.2.2.2.2.2.1, u41.2.2.2.2.2.2.2.2.1, (u41.2.2.2.2.2.2.2.2.2.map dat0)))))
abbrev zv5 (N : Nat) (x : qL × qL × qL × Int × Nat × Int × Int × Int × qL × qA) : Option ((qL × Bool × Int × Nat × Int × qL × qA) ⊕ (qL × Int × Nat × Int × qL × qA)) := (ZY N).L N x
def ZF (N : Nat) : LSpec where
 X := qL × qL × qL × Int × Nat × Int × Int × qL × qL × qA
 Y := (qL × qL × Bool × Int × Nat × qL × qA) ⊕ (qL × qL × Int × Nat × qL × qA)
 p := λ s => rdS 205 0 [(6, .lst 25), (8, .lst 1), (72, .lst 1), (4, .ptr 4 0), (5, .int .i64), (7, .ptr 7 0), (11, .vs0 62 1), (73, .int .i64), (74, .int .i64)] [(4, .cells [.lst 1]), (7, .cells [.lst 1]), (62, .tt)] s λ ⟨a0, a1, a2, _, a3, _, a4, a5, a6, _⟩ ⟨⟨a7, _⟩, ⟨a8, _⟩, a9, _⟩ => (a0, a1, a2, a3, a4, a5, a6, a7, a8, a9)
 st := λ u24 => mkS 205 [(6, (AV.list 25 u24.1 none)), (8, (AV.list 1 u24.2.1 none)), (72, (AV.list 1 u24.2.2.1 none)), (4, (AV.ptr 4 0)), (5, (qI u24.2.2.2.1)), (7, (AV.ptr 7 0)), (11, (AV.vs 62 0 u24.2.2.2.2.1 1)), (73, (qI u24.2.2.2.2.2.1)), (74, (qI u24.2.2.2.2.2.2.1))] [(4, [(AV.list 1 u24.2.2.2.2.2.2.2.1 none)]), (7, [(AV.list 1 u24.2.2.2.2.2.2.2.2.1 none)]), (62, u24.2.2.2.2.2.2.2.2.2)] (Z0 24).1.toks 0
 out := λ y => match y with
  | .inl y => (.ret, mkS 205 [(6, (AV.list 25 y.1 none)), (8, (AV.list 1 y.2.1 none)), (2, (AV.v (.bool y.2.2.1))), (5, (qI y.2.2.2.1)), (7, (AV.ptr 7 0)), (11, (AV.vs 62 0 y.2.2.2.2.1 1))] [(7, [(AV.list 1 y.2.2.2.2.2.1 none)]), (62, y.2.2.2.2.2.2)] (Z0 24).2.toks 0)
  | .inr y => (.exit 2, mkS 205 [(6, (AV.list 25 y.1 none)), (8, (AV.list 1 y.2.1 none)), (5, (qI y.2.2.1)), (7, (AV.ptr 7 0)), (11, (AV.vs 62 0 y.2.2.2.1 1))] [(7, [(AV.list 1 y.2.2.2.2.1 none)]), (62, y.2.2.2.2.2)] (Z0 24).2.toks 0)
 b := λ u24 α kn ke => (match (decide (u24.2.2.2.2.2.2.1 < u24.2.2.2.2.2.1)) with | true => (if 0 <= u24.2.2.2.2.2.2.1 then (match u24.2.2.1[u24.2.2.2.2.2.2.1.toNat]? with | some c17 => (match c17[0]? with | some x18 => (match x18 with | .v (.int q20 n19) => (if q20 = .i64 then (match (decide (n19 < (-1))) with | true => (ke (.inl (u24.1, u24.2.1, false, u24.2.2.2.1, u24.2.2.2.2.1, u24.2.2.2.2.2.2.2.2.1, (u24.2.2.2.2.2.2.2.2.2.map dat0)))) | false => (match (decide (n19 >= (u24.1.length : Int))) with | true => (ke (.inl (u24.1, u24.2.1, false, u24.2.2.2.1, u24.2.2.2.2.1, u24.2.2.2.2.2.2.2.2.1, (u24.2.2.2.2.2.2.2.2.2.map dat0)))) | false => (match (decide (n19 >= 0)) with | true => (if 0 <= u24.2.2.2.2.2.2.1 then (match u24.2.2.2.2.2.2.2.1[u24.2.2.2.2.2.2.1.toNat]? with | some c21 => (match zdO c21 with | some e22 => (match zcH N e22.1 with | some y23 => (match ze0 N y23 with | some y24 => (match (!y24) with | true => (if 0 <= n19 /\ n19 < (u24.2.2.2.2.1 : Int) then (if ((0 + n19.toNat) * 1) + 1 <= u24.2.2.2.2.2.2.2.2.2.length then (kn (u24.1, u24.2.1, u24.2.2.1, u24.2.2.2.1, u24.2.2.2.2.1, u24.2.2.2.2.2.1, (i64 (u24.2.2.2.2.2.2.1 + 1)), u24.2.2.2.2.2.2.2.1, u24.2.2.2.2.2.2.2.2.1, ((splice u24.2.2.2.2.2.2.2.2.2 ((0 + n19.toNat) * 1) [(AV.v (.bool false))]).map dat0))) else none) else none) | false => (kn (u24.1, u24.2.1, u24.2.2.1, u24.2.2.2.1, u24.2.2.2.2.1, u24.2.2.2.2.2.1, (i64 (u24.2.2.2.2.2.2.1 + 1)), u24.2.2.2.2.2.2.2.1, u24.2.2.2.2.2.2.2.2.1, (u24.2.2.2.2.2.2.2.2.2.map dat0)))) | none => none) | none => none) | none => none) | none => none) else none) | false => (kn (u24.1, u24.2.1, u24.2.2.1, u24.2.2.2.1, u24.2.2.2.2.1, u24.2.2.2.2.2.1, (i64 (u24.2.2.2.2.2.2.1 + 1)), u24.2.2.2.2.2.2.2.1, u24.2.2.2.2.2.2.2.2.1, (u24.2.2.2.2.2.2.2.2.2.map dat0)))))) else none) | _ => none) | none => none) | none => none) else none) | false => (ke (.inr (u24.1, u24.2.1, u24.2.2.2.1, u24.2.2.2.2.1, u24.2.2.2.2.2.2.2.2.1, (u24.2.2.2.2.2.2.2.2.2.map dat0)))))
abbrev zv4 (N : Nat) (x : qL × qL × qL × Int × Nat × Int × Int × qL × qL × qA) : Option ((qL × qL × Bool × Int × Nat × qL × qA) ⊕ (qL × qL × Int × Nat × qL × qA)) := (ZF N).L N x
def jE (N : Nat) : LSpec where
 X := qL × qL × qL × Int × Nat × Int × Int × qL × qL × qA
 Y := (qL × qL × qL × Int × Nat × qL × qL × qA)
 p := λ s => rdS 205 0 [(6, .lst 25), (8, .lst 1), (10, .lst 1), (4, .ptr 4 0), (5, .int .i64), (7, .ptr 7 0), (11, .vs0 62 1), (64, .int .i64), (65, .int .i64)] [(4, .cells [.lst 1]), (7, .cells [.lst 1]), (62, .tt)] s λ ⟨a0, a1, a2, _, a3, _, a4, a5, a6, _⟩ ⟨⟨a7, _⟩, ⟨a8, _⟩, a9, _⟩ => (a0, a1, a2, a3, a4, a5, a6, a7, a8, a9)
 st := λ u14 => mkS 205 [(6, (AV.list 25 u14.1 none)), (8, (AV.list 1 u14.2.1 none)), (10, (AV.list 1 u14.2.2.1 none)), (4, (AV.ptr 4 0)), (5, (qI u14.2.2.2.1)), (7, (AV.ptr 7 0)), (11, (AV.vs 62 0 u14.2.2.2.2.1 1)), (64, (qI u14.2.2.2.2.2.1)), (65, (qI u14.2.2.2.2.2.2.1))] [(4, [(AV.list 1 u14.2.2.2.2.2.2.2.1 none)]), (7, [(AV.list 1 u14.2.2.2.2.2.2.2.2.1 none)]), (62, u14.2.2.2.2.2.2.2.2.2)] (Z0 14).1.toks 0
 out := λ y => (.exit 0, mkS 205 [(6, (AV.list 25 y.1 none)), (8, (AV.list 1 y.2.1 none)), (10, (AV.list 1 y.2.2.1 none)), (4, (AV.ptr 4 0)), (5, (qI y.2.2.2.1)), (7, (AV.ptr 7 0)), (11, (AV.vs 62 0 y.2.2.2.2.1 1))] [(4, [(AV.list 1 y.2.2.2.2.2.1 none)]), (7, [(AV.list 1 y.2.2.2.2.2.2.1 none)]), (62, y.2.2.2.2.2.2.2)] (Z0 14).2.toks 0)
 b := λ u14 α kn ke => (match (decide (u14.2.2.2.2.2.2.1 < u14.2.2.2.2.2.1)) with | true => (if 0 <= u14.2.2.2.2.2.2.1 /\ u14.2.2.2.2.2.2.1 < (u14.2.2.2.2.1 : Int) then (if ((0 + u14.2.2.2.2.2.2.1.toNat) * 1) + 1 <= u14.2.2.2.2.2.2.2.2.2.length then (kn (u14.1, u14.2.1, u14.2.2.1, u14.2.2.2.1, u14.2.2.2.2.1, u14.2.2.2.2.2.1, (i64 (u14.2.2.2.2.2.2.1 + 1)), u14.2.2.2.2.2.2.2.1, u14.2.2.2.2.2.2.2.2.1, ((splice u14.2.2.2.2.2.2.2.2.2 ((0 + u14.2.2.2.2.2.2.1.toNat) * 1) [(AV.v (.bool true))]).map dat0))) else none) else none) | false => (ke (u14.1, u14.2.1, u14.2.2.1, u14.2.2.2.1, u14.2.2.2.2.1, u14.2.2.2.2.2.2.2.1, u14.2.2.2.2.2.2.2.2.1, (u14.2.2.2.2.2.2.2.2.2.map dat0))))
abbrev zv3 (N : Nat) (x : qL × qL × qL × Int × Nat × Int × Int × qL × qL × qA) : Option ((qL × qL × qL × Int × Nat × qL × qL × qA)) := (jE N).L N x
def zzn (N : Nat) : FSpec where
 X := qL
 Y := Bool
 ash := [[some 1]]
 S := ⟨[[none]], [], [], [], []⟩
 pat := λ a b => rdA [.lst 1] [] a b λ ⟨a0, _⟩ _ => a0
 args := λ x => [(AV.list 1 x none)]
 ret := λ y => ⟨(AV.v (.bool y)), [], none, [], [], [], none⟩
 t := λ x α k => (match zDr N x with | some y1 => (match Jk N (8, y1) with | some y2 => (match zAN N y2 with | some y3 => (match zt6 N (5, y3.2.2) with | some y4 => (match zjJ N (y3.1, y4.1, y3.2.1) with | some y5 => (match zl3 N (y3.1, y4.1) with | some y6 => (match (y5.2.2 != 0) with | true => (k false) | false => (match ((y6.length : Int) != (y3.1.length : Int)) with | true => (k false) | false => (match zjO N y5.1 with | some y7 => (match (!y7) with | true => (k false) | false => (if 0 <= (y4.1.length : Int) /\ (y4.1.length : Int) <= (y4.1.length : Int) /\ (y4.1.length : Int).toNat * 1 <= zg then (match zv3 N (y4.1, y5.2.1, y6, y3.2.1, ((y4.1.length : Int).toNat), (y4.1.length : Int), 0, y3.1, y5.1, ((List.replicate (y4.1.length : Int).toNat (AV.v (.bool false))).map dat0)) with | some y8 => (match zv4 N (y8.1, y8.2.1, y8.2.2.1, y8.2.2.2.1, y8.2.2.2.2.1, (y8.2.2.1.length : Int), 0, y8.2.2.2.2.2.1, y8.2.2.2.2.2.2.1, (y8.2.2.2.2.2.2.2.map dat0)) with | some y25 => (match y25 with | .inl z26 => (k z26.2.2.1) | .inr z27 => (match zv5 N (z27.1, z27.2.1, z27.2.2.2.2.1, z27.2.2.1, z27.2.2.2.1, 0, (z27.2.2.2.2.1.length : Int), 0, z27.2.2.2.2.1, (z27.2.2.2.2.2.map dat0)) with | some y50 => (match y50 with | .inl z51 => (k z51.2.1) | .inr z52 => (match zv6 N (z52.1, z52.2.1, z52.2.2.1, z52.2.2.2.1, ((z52.2.2.1 : Nat) : Int), 0, z52.2.2.2.2.1, (z52.2.2.2.2.2.map dat0)) with | some y57 => (match zv7 N (y57.1, y57.1, y57.2.1, y57.2.2.1, (y57.1.length : Int), 0, y57.2.2.2) with | some y72 => (match y72 with | .inl z73 => (k z73.1) | .inr z74 => (match (z74 == 0) with | true => (match zzF N () with | some y75 => (k y75) | none => none) | false => (k false))) | none => none) | none => none)) | none => none)) | none => none) | none => none) else none)) | none => none))) | none => none) | none => none) | none => none) | none => none) | none => none) | none => none)
abbrev zEr (N : Nat) (x : qL) : Option (Bool) := (zzn N).d x
def JW (N : Nat) : List (Nat × LSpec) := [(14, jE N), (24, ZF N), (41, ZY N), (60, ZZ N), (72, jF N)]
def zeq : Code := Tryd.f4.body.getD .skip
theorem zrN (N : Nat) : Par (jF N).b := by
 intro x α β kn ke kn' ke' r r' h h1 h2
 revert h
 dsimp only [jF]
 (repeat' (first | (with_reducible refine ze ?_ ?_) | split)) <;> intro h <;> first | exact h1 _ h | exact h2 _ h | cases h
theorem zm8 (N : Nat) : Z3 (zn qP) (zzm N) Z0 N (JW N) 72 zeq (jF N) := λ x α kn ke => by kernel_rfl
theorem znd (N : Nat) : ZB qP Z0 N (JW N) 72 (zb 72 zeq) :=
 zD (zc qP) (zh _) zk Z0 N (JW N) 72 zeq (l := []) (by kernel_rfl) (by kernel_rfl) an (jF N) rfl (λ s x hc h => by dsimp only [jF] at h; exact zG hc h (λ _ _ => rfl) rfl rfl rfl) (λ _ => rfl) (zm8 N) (zrN N)
theorem zrM (N : Nat) : Par (ZZ N).b := by
 intro x α β kn ke kn' ke' r r' h h1 h2
 revert h
 dsimp only [ZZ]
 (repeat' (first | (with_reducible refine ze ?_ ?_) | split)) <;> intro h <;> first | exact h1 _ h | exact h2 _ h | cases h
theorem zm7 (N : Nat) : Z3 (zn qP) (zzm N) Z0 N (JW N) 60 zeq (ZZ N) := λ x α kn ke => by kernel_rfl
theorem znc (N : Nat) : ZB qP Z0 N (JW N) 60 (zb 60 zeq) :=
 zD (zc qP) (zh _) zk Z0 N (JW N) 60 zeq (l := []) (by kernel_rfl) (by kernel_rfl) an (ZZ N) rfl (λ s x hc h => by dsimp only [ZZ] at h; exact zG hc h (λ _ _ => rfl) rfl rfl rfl) (λ _ => rfl) (zm7 N) (zrM N)
theorem zrL (N : Nat) : Par (ZY N).b := by
 intro x α β kn ke kn' ke' r r' h h1 h2
 revert h
 dsimp only [ZY]
 (repeat' (first | (with_reducible refine ze ?_ ?_) | split)) <;> intro h <;> first | exact h1 _ h | exact h2 _ h | cases h
theorem zm6 (N : Nat) : Z3 (zn qP) (zzm N) Z0 N (JW N) 41 zeq (ZY N) := λ x α kn ke => by kernel_rfl
theorem znb (N : Nat) : ZB qP Z0 N (JW N) 41 (zb 41 zeq) :=
 zD (zc qP) (zh _) zk Z0 N (JW N) 41 zeq (l := []) (by kernel_rfl) (by kernel_rfl) an (ZY N) rfl (λ s x hc h => by dsimp only [ZY] at h; exact zG hc h (λ _ _ => rfl) rfl rfl rfl) (λ _ => rfl) (zm6 N) (zrL N)
theorem zrK (N : Nat) : Par (ZF N).b := by
 intro x α β kn ke kn' ke' r r' h h1 h2
 revert h
 dsimp only [ZF]
 (repeat' (first | (with_reducible refine ze ?_ ?_) | split)) <;> intro h <;> first | exact h1 _ h | exact h2 _ h | cases h
theorem zm5 (N : Nat) : Z3 (zn qP) (zzm N) Z0 N (JW N) 24 zeq (ZF N) := λ x α kn ke => by kernel_rfl
theorem zna (N : Nat) : ZB qP Z0 N (JW N) 24 (zb 24 zeq) :=
 zD (zc qP) (zh _) zk Z0 N (JW N) 24 zeq (l := []) (by kernel_rfl) (by kernel_rfl) an (ZF N) rfl (λ s x hc h => by dsimp only [ZF] at h; exact zG hc h (λ _ _ => rfl) rfl rfl rfl) (λ _ => rfl) (zm5 N) (zrK N)
theorem zrJ (N : Nat) : Par (jE N).b := by
 intro x α β kn ke kn' ke' r r' h h1 h2
 revert h
 dsimp only [jE]
 (repeat' (first | (with_reducible refine ze ?_ ?_) | split)) <;> intro h <;> first | exact h1 _ h | exact h2 _ h | cases h
theorem zm4 (N : Nat) : Z3 (zn qP) (zzm N) Z0 N (JW N) 14 zeq (jE N) := λ x α kn ke => by kernel_rfl
theorem zm9 (N : Nat) : ZB qP Z0 N (JW N) 14 (zb 14 zeq) :=
 zD (zc qP) (zh _) zk Z0 N (JW N) 14 zeq (l := []) (by kernel_rfl) (by kernel_rfl) an (jE N) rfl (λ s x hc h => by dsimp only [jE] at h; exact zG hc h (λ _ _ => rfl) rfl rfl rfl) (λ _ => rfl) (zm4 N) (zrJ N)
theorem zxE (N : Nat) : Zd (zzn N).t := by
 intro x α β k k' r r' h h1
 revert h
 dsimp only [zzn]
 (repeat' (first | (with_reducible refine ze ?_ ?_) | split)) <;> intro h <;> first | exact h1 _ h | cases h
theorem zxF (N : Nat) : Zg (zn qP) (zzm N) Z0 (lam N (JW N)) Tryd.f4 (zzn N) := λ x => by kernel_rfl
def F4_e (N : Nat) : Ent qP := zA (zc qP) (zh _) zk 4 Tryd.f4 Tryd.func4 rfl Z0 (lam N (JW N)) (zm (l := [(14, zb 14 zeq), (24, zb 24 zeq), (41, zb 41 zeq), (60, zb 60 zeq), (72, zb 72 zeq)]) (al (zm9 N) (al (zna N) (al (znb N) (al (znc N) (al (znd N) an))))) (by kernel_rfl)) (zzn N) (λ _ => ⟨rfl, rfl⟩) (zxF N) (λ _ _ _ h => zw h (λ _ _ => rfl) (λ _ _ => rfl)) (zxE N)
end
end Go.Proofs.YthdgnfcbehcplaaDoor
end
section
namespace Go.Proofs.YthdgnfcbehcplaaDoor
theorem dF {p : Prop} [Decidable p] (h : ¬ p) : decide p = false := decide_eq_false h
theorem dT {p : Prop} [Decidable p] (h : p) : decide p = true := decide_eq_true h
theorem pS {d f : Nat} (h : d < f) : ∃ f', f = f' + 1 := ⟨f - 1, by omega⟩
def zt (xs : List Int) : List (List AV) := xs.map λ x => [I x]
theorem Zu {x : Int} (h : -9223372036854775808 <= x /\ x <= 9223372036854775807) : i64 x = x := IntWalk.i64_in _ (by omega)
theorem je (xs : List Int) : (zt xs).length = xs.length := by simp [zt]
theorem Ju (xs : List Int) (k : Nat) (h : k < xs.length) : (zt xs)[k]? = some [I xs[k]] := by simp [zt, h]
structure Sc (xs : List Int) (p : Int) : Prop where
 l : xs.length <= 2000
 p0 : 0 <= p
 p1 : p <= xs.length
theorem zB2 (N : Nat) {xs : List Int} {p : Int} (D : Sc xs p) : ∃ v p', zxs N (zt xs, p) = some (v, zt xs, p') /\ Sc xs p' := by
 obtain ⟨l, p0, p1⟩ := D
 simp only [zxs, FSpec.d, zzP]
 by_cases h : p >= ((zt xs).length : Int)
 ·simp only [h, decide_true]
  exact ⟨0, p, rfl, ⟨l, p0, p1⟩⟩
 ·have h0 := h
  rw [je] at h0
  have h2 : p.toNat < xs.length := by omega
  have hp : i64 (p + 1) = p + 1 := Zu (by omega)
  have hq : i64 (p + 1 - 1) = p := by rw [Zu (by omega)]; omega
  simp only [h, decide_false, hp, hq, p0, if_true, Ju xs _ h2, List.getElem?_cons_zero]
  exact ⟨_, _, rfl, ⟨l, by omega, by omega⟩⟩
theorem zBN (N : Nat) (v : Int) {n : Int} (hn : 1 <= n /\ n <= 1000000) : ∃ r, zmh N (v, n) = some r /\ 0 <= r /\ r < n := by
 simp only [zmh, FSpec.d, zjW]
 have h1 : ¬ n < 1 := by omega
 have h3 : ¬ n = 0 := by omega
 simp only [h1, decide_false, h3, if_false]
 by_cases hneg : v.tmod n < 0
 ·simp only [hneg, decide_true]
  have t1 : -n < v.tmod n := by
   have := Int.tmod_lt_of_pos (-v) (show 0 < n by omega)
   rw [Int.neg_tmod] at this
   omega
  rw [Zu (by omega)]
  exact ⟨_, rfl, by omega, by omega⟩
 ·simp only [hneg, decide_false]
  have t1 := Int.tmod_lt_of_pos v (show 0 < n by omega)
  exact ⟨_, rfl, by omega, by omega⟩
theorem zec (N : Nat) {n : Int} {xs : List Int} {p : Int} (hn : 1 <= n /\ n <= 1000000) (D : Sc xs p) : ∃ v p', zc4 N (n, zt xs, p) = some (v, zt xs, p') /\ (0 <= v /\ v < n) /\ Sc xs p' := by
 obtain ⟨v, p', h1, h2⟩ := zB2 N D
 obtain ⟨r, h3, h4⟩ := zBN N v hn
 refine ⟨r, p', ?_, h4, h2⟩
 simp only [zc4, FSpec.d, zEt]
 simp only [h1, h3]
theorem zy3 (N : Nat) (O : List Int) {xs : List Int} {p : Int} (hO : 1 <= O.length /\ O.length <= 1000) (D : Sc xs p) : ∃ v p', zrR N (zt O, zt xs, p) = some (v, zt xs, p') /\ v ∈ O /\ Sc xs p' := by
 simp only [zrR, FSpec.d, zAd]
 obtain ⟨v, p', h1, h2, h3⟩ := zec N (n := (O.length : Int)) (by omega) D
 rw [je, h1]
 have h4 : v.toNat < O.length := by omega
 simp only [h2.1, if_true, Ju O _ h4, List.getElem?_cons_zero]
 exact ⟨_, _, rfl, List.getElem_mem h4, h3⟩
theorem zBP (N : Nat) (xs : List Int) : zDr N (zt xs) = some (zt (xs.take 2000), 0) /\ Sc (xs.take 2000) 0 := by
 refine ⟨?_, ⟨by simp; omega, by omega, by omega⟩⟩
 simp only [zDr, FSpec.d, zzo, je]
 by_cases h : 2000 < (xs.length : Int)
 ·have h2 : (0 <= (2000 : Int) /\ (2000 : Int) <= xs.length) := by omega
  simp only [h, if_true, h2, and_self]
  simp [zt]
 ·have h2 : (0 <= (xs.length : Int) /\ (xs.length : Int) <= xs.length) := by omega
  simp only [h, if_false, h2, and_self, if_true]
  rw [List.take_of_length_le (by rw [je]; omega), List.take_of_length_le (by omega)]
section
variable {T : Type} (en : T -> List AV) (n : Nat) (hl : ∀ e, (en e).length = n)
def fl (L : List T) : List AV := (L.map en).flatten
include hl
theorem zb8 (L : List T) : (fl en L).length = L.length * n := by
 induction L with
 | nil => simp [fl]
 | cons a L ih =>
  show ((en a) ++ fl en L).length = _
  rw [List.length_append, ih, hl, List.length_cons, Nat.succ_mul, Nat.add_comm]
theorem zhX : ∀ (L : List T) (i j : Nat) (h : i < L.length), j <= n -> (fl en L).drop (i * n + j) = (en L[i]).drop j ++ fl en (L.drop (i + 1))
 | a :: L, 0, j, h, hj => by
  show ((en a) ++ fl en L).drop (0 * n + j) = _
  rw [Nat.zero_mul, Nat.zero_add, List.drop_append_of_le_length (by rw [hl]; exact hj)]
  rfl
 | a :: L, i + 1, j, h, hj => by
  show ((en a) ++ fl en L).drop ((i + 1) * n + j) = _
  have e : (i + 1) * n + j = (en a).length + (i * n + j) := by rw [hl, Nat.succ_mul]; omega
  rw [e, List.drop_append, List.drop_eq_nil_of_le (by omega), Nat.add_sub_cancel_left, List.nil_append, zhX L i j (by simpa using h) hj]
  rfl
theorem zwY (L : List T) (i j : Nat) (h : i < L.length) (hj : j < n) : (fl en L)[i * n + j]? = (en L[i])[j]? := by
 have := congrArg (λ l : List AV => l[0]?) (zhX en n hl L i j h (Nat.le_of_lt hj))
 simp only [List.getElem?_drop, Nat.add_zero] at this
 rw [this, List.getElem?_append_left (by rw [List.length_drop, hl]; omega)]
 simp
omit hl in
theorem zwW (L : List T) (a : T) : fl en L ++ en a = fl en (L ++ [a]) := by
 unfold fl
 rw [List.map_append, List.flatten_append]
 simp
theorem zhY (L : List T) (k : Nat) (hk : k = L.length) : (fl en L).take (k * n) = fl en L := by
 rw [List.take_of_length_le]
 rw [zb8 en n hl, hk]
 exact Nat.le_refl _
omit hl in
theorem zwX (hd : ∀ e, (en e).map dat0 = en e) (L : List T) : (fl en L).map dat0 = fl en L := by
 induction L with
 | nil => rfl
 | cons a L ih =>
  show ((en a) ++ fl en L).map dat0 = (en a) ++ fl en L
  rw [List.map_append, ih, hd]
theorem zeL (hd : ∀ e, (en e).map dat0 = en e) : ∀ L : List T, zK (fl en L) n L.length = L.map en
 | [] => rfl
 | a :: L => by
  show ((((en a) ++ fl en L).take n).map dat0) :: zK (((en a) ++ fl en L).drop n) n L.length = en a :: L.map en
  have e1 : ((en a) ++ fl en L).take n = en a := by rw [<- hl a, List.take_left]
  have e2 : ((en a) ++ fl en L).drop n = fl en L := by rw [<- hl a, List.drop_left]
  rw [e1, e2, hd, zeL hd L]
theorem zgT (hd : ∀ e, (en e).map dat0 = en e) (L : List T) (k : Nat) (hk : k = L.length) : zK ((fl en L).take (k * n)) n k = L.map en := by
 rw [zhY en n hl L k hk, hk, zeL en n hl hd L]
theorem zpe (L : List T) (i j : Nat) (h : i < L.length) (new : List AV) (b : T) (hb : splice (en L[i]) j new = en b) (hj : j + new.length <= n) : splice (fl en L) (i * n + j) new = fl en (L.set i b) := by
 have hlen : i * n + j + new.length <= (fl en L).length := by
  rw [zb8 en n hl]
  have : (i + 1) * n <= L.length * n := Nat.mul_le_mul_right n h
  rw [Nat.succ_mul] at this
  omega
 refine List.ext_getElem? λ k => ?_
 rw [Jv new _ _ hlen]
 by_cases hn : n = 0
 ·have e1 : ∀ L' : List T, fl en L' = [] := λ L' => List.eq_nil_of_length_eq_zero (by rw [zb8 en n hl, hn, Nat.mul_zero])
  rw [e1, e1]
  have : ¬ (i * n + j <= k /\ k < i * n + j + new.length) := by omega
  rw [if_neg this]
 have hpos : 0 < n := Nat.pos_of_ne_zero hn
 by_cases hk : k < L.length * n
 ·obtain ⟨q, r, hq, hr, rfl⟩ : ∃ q r, q < L.length /\ r < n /\ k = q * n + r := ⟨k / n, k % n, (Nat.div_lt_iff_lt_mul hpos).2 hk, Nat.mod_lt _ hpos, by rw [Nat.mul_comm]; exact (Nat.div_add_mod k n).symm⟩
  rw [zwY en n hl L q r hq hr, zwY en n hl (L.set i b) q r (by simpa using hq) hr, List.getElem_set]
  by_cases e : i = q
  ·subst e
   simp only [if_true]
   rw [<- hb, Jv new _ _ (by rw [hl]; exact hj)]
   have c : (i * n + j <= i * n + r /\ i * n + r < i * n + j + new.length) ↔ (j <= r /\ r < j + new.length) := by omega
   by_cases c2 : j <= r /\ r < j + new.length
   ·rw [if_pos (c.2 c2), if_pos c2]
    congr 1
    omega
   ·rw [if_neg (λ x => c2 (c.1 x)), if_neg c2]
  ·rw [if_neg e, if_neg]
   rintro ⟨c1, c2⟩
   rcases Nat.lt_or_gt_of_ne e with h1 | h1
   ·have : (i + 1) * n <= q * n := Nat.mul_le_mul_right n h1
    rw [Nat.succ_mul] at this
    omega
   ·have : (q + 1) * n <= i * n := Nat.mul_le_mul_right n h1
    rw [Nat.succ_mul] at this
    omega
 ·have e1 : (fl en L)[k]? = none := List.getElem?_eq_none (by rw [zb8 en n hl]; omega)
  have e2 : (fl en (L.set i b))[k]? = none := List.getElem?_eq_none (by rw [zb8 en n hl, List.length_set]; omega)
  have : ¬ (i * n + j <= k /\ k < i * n + j + new.length) := by
   rw [zb8 en n hl] at hlen
   omega
  rw [if_neg this, e1, e2]
end
end Go.Proofs.YthdgnfcbehcplaaDoor
end
section
namespace Go.Proofs.YthdgnfcbehcplaaDoor
@[reducible] def nmE (e : RT0) : RT1 := (e.1, e.2.1, e.2.2.1, e.2.2.2.1, e.2.2.2.2.1, e.2.2.2.2.2.1, e.2.2.2.2.2.2.1, e.2.2.2.2.2.2.2.1, e.2.2.2.2.2.2.2.2.1, ())
@[reducible] def pkE (e : RT0) : List (List AV) := e.2.2.2.2.2.2.2.2.2.1
@[reducible] def loE (e : RT0) : Int := e.2.2.2.2.2.2.2.2.2.2.2.2.2.2.2.2.2.2.2.2.2.2.1
@[reducible] def hiE (e : RT0) : Int := e.2.2.2.2.2.2.2.2.2.2.2.2.2.2.2.2.2.2.2.2.2.2.2.1
def z10 (c : Nat) : zqe := ((⟨#[]⟩ : ByteArray), (⟨#[]⟩ : ByteArray), (⟨#[]⟩ : ByteArray), (⟨#[]⟩ : ByteArray), 0, 0, 0, 0, 0, c, 0, 0, 0, 0, 0, 0, 0, 0, 0, 0, 0, 0, 0, 0, 0, ())
def z8 : RT8 := ((⟨#[]⟩ : ByteArray), (⟨#[]⟩ : ByteArray), (⟨#[]⟩ : ByteArray), (⟨#[]⟩ : ByteArray), 0, 0, 0, 0, 0, ([] : List (List AV)), 0, 0, 0, 0, 0, 0, 0, 0, 0, 0, 0, 0, 0, 0, 0, ())
def AB : ByteArray := ⟨#[65, 66]⟩
def LC : ByteArray := ⟨#[48, 48]⟩
def CH : ByteArray := ⟨#[66, 72, 90]⟩
def st : Nat -> ByteArray
 | 0 => ⟨#[83, 49]⟩
 | 1 => ⟨#[83, 50]⟩
 | 2 => ⟨#[83, 51]⟩
 | _ => ⟨#[83, 52]⟩
theorem zB9 (k : Nat) (h : k < 4) : zrO 600 (k : Int) = some (AB, st k, LC, CH, ()) := by
 rcases (show k = 0 \/ k = 1 \/ k = 2 \/ k = 3 by omega) with rfl | rfl | rfl | rfl <;> kernel_rfl
theorem zu6 {xs : List Int} {p : Int} (D : Sc xs p) : ∃ x y z p', zxG 600 (20, zt xs, p) = some (x, y, z, zt xs, p') /\ Sc xs p' := by
 obtain ⟨v1, p1, h1, m1, D1⟩ := zec 600 (n := 41) (by omega) D
 obtain ⟨v2, p2, h2, m2, D2⟩ := zec 600 (n := 41) (by omega) D1
 obtain ⟨v3, p3, h3, m3, D3⟩ := zec 600 (n := 21) (by omega) D2
 simp only [zxG, FSpec.d, zz9]
 have e1 : i64 (i64 (2 * 20) + 1) = 41 := by decide
 have e2 : i64 (20 + 1) = 21 := by decide
 simp only [e1, e2, h1, h2, h3]
 exact ⟨_, _, _, _, rfl, D3⟩
def zhC (k : Nat) (p : RT1) : Prop := p.1 = AB /\ p.2.1 = st k /\ p.2.2.1 = LC /\ p.2.2.2.1 = CH /\ p.2.2.2.2.2.2.2.2.1 = 0
theorem fl1 (L : List RT1) : (fl zy L).map dat0 = fl zy L := zwX zy (λ _ => rfl) L
theorem fl0 (L : List RT0) : (fl zB L).map dat0 = fl zB L := zwX zB (λ _ => rfl) L
theorem zw1 (L : List RT1) : (fl zy L).length = L.length * 9 := zb8 zy 9 zaV L
theorem zBJ (L : List RT0) : (fl zB L).length = L.length * 25 := zb8 zB 25 zfn L
theorem app1 (L : List RT1) (a : RT1) (k : Nat) (hk : k = L.length) : (fl zy L).take (k * 9) ++ [zy a].flatten = fl zy (L ++ [a]) := by
 rw [zhY zy 9 zaV L k hk, <- zwW]; simp
theorem app0 (L : List RT0) (a : RT0) (k : Nat) (hk : k = L.length) : (fl zB L).take (k * 25) ++ [zB a].flatten = fl zB (L ++ [a]) := by
 rw [zhY zB 25 zfn L k hk, <- zwW]; simp
theorem zyz (t : Int) {xs : List Int} (ht : 0 <= t /\ t <= 100000) : ∀ (m k f : Nat) (p : Int) (L : List RT1), k + m = 4 -> m < f -> Sc xs p -> L.length = k -> (∀ i (h : i < L.length), zhC i L[i]) ->
  ∃ (L' : List RT1) (p' : Int), (jj 600).L f (1, t, (k : Int), zt xs, p, z8, z10 k, fl zy L) = some (t, zt xs, p', z8, z10 L'.length, fl zy L') /\ (1 <= L'.length /\ L'.length <= 4) /\ (∀ i (h : i < L'.length), zhC i L'[i]) /\ Sc xs p' := by
 intro m
 induction m with
 | zero =>
  intro k f p L hk hf D hl hL
  obtain ⟨f, rfl⟩ := pS hf
  obtain ⟨v, p1, h1, m1, D1⟩ := zec 600 (n := 4) (by omega) D
  refine ⟨L, p1, ?_, by omega, hL, D1⟩
  show (jj 600).b _ _ ((jj 600).L f) some = _
  simp only [jj]
  have e1 : i64 (1 + v) = 1 + v := Zu (by omega)
  have e2 : decide ((k : Int) < 1 + v) = false := dF (by omega)
  simp only [h1, e1, e2, fl1, hl]
 | succ m ih =>
  intro k f p L hk hf D hl hL
  obtain ⟨f, rfl⟩ := pS hf
  obtain ⟨v, p1, h1, m1, D1⟩ := zec 600 (n := 4) (by omega) D
  have e1 : i64 (1 + v) = 1 + v := Zu (by omega)
  by_cases hc : (k : Int) < 1 + v
  ·obtain ⟨u, p2, h2, m2, D2⟩ := zec 600 (n := 3) (by omega) D1
   have hs := zB9 k (by omega)
   obtain ⟨q, hq⟩ : ∃ q : RT1, q = (AB, st k, LC, CH, t + 10, t + 10, t + 10 + u, 1, 0, ()) := ⟨_, rfl⟩
   have hfin : ∀ i (h : i < (L ++ [q]).length), zhC i (L ++ [q])[i] := λ i h => by
    rw [List.getElem_append]
    split
    ·exact hL i _
    ·simp at h
     obtain rfl : i = k := by omega
     simp [hl, hq, zhC]
   obtain ⟨L', p', r1, r2, r3, r4⟩ := ih (k + 1) f p2 (L ++ [q]) (by omega) (by omega) D2 (by simp [hl]) hfin
   refine ⟨L', p', ?_, r2, r3, r4⟩
   show (jj 600).b _ _ ((jj 600).L f) some = _
   generalize (jj 600).L f = Lf at r1 |-
   simp only [jj]
   have e2 : decide ((k : Int) < 1 + v) = true := dT (by omega)
   have e3 : i64 (10 * 1) = 10 := by decide
   have e4 : i64 (t + 10) = t + 10 := Zu (by omega)
   have e5 : i64 (t + 10 + u) = t + 10 + u := Zu (by omega)
   have e6 : i64 ((k : Int) + 1) = ((k + 1 : Nat) : Int) := by rw [Zu (by omega)]; omega
   have hb : ((z10 k).2.2.2.2.2.2.2.2.2.1 * 9 <= (fl zy L).length /\ ((z10 k).2.2.2.2.2.2.2.2.2.1 + [zy q].length) * 104 <= zg) := by
    rw [zw1]; unfold zg z10; simp; omega
   simp only [h1, e1, e2, hs, h2, e3, e4, e5, e6, <- hq, hb, if_true, and_self]
   rw [app1 L q _ (show (z10 k).2.2.2.2.2.2.2.2.2.1 = _ from hl.symm), fl1]
   exact r1
  ·refine ⟨L, p1, ?_, by omega, hL, D1⟩
   show (jj 600).b _ _ ((jj 600).L f) some = _
   simp only [jj]
   have e2 : decide ((k : Int) < 1 + v) = false := dF (by omega)
   simp only [h1, e1, e2, fl1, hl]
theorem zEh {xs : List Int} {p : Int} (D : Sc xs p) : ∃ (e : zyf) (L : List RT1) (p' : Int), zmc 600 (1, zt xs, p) = some (e, zt xs, p', fl zy L) /\ e.2.2.2.2.2.2.2.2.2.1 = L.length /\ (1 <= L.length /\ L.length <= 4) /\ (∀ i (h : i < L.length), zhC i L[i]) /\ e.2.2.2.2.2.2.2.2.2.2.2.2.2.2.2.2.2.2.2.2.2.2.1 <= e.2.2.2.2.2.2.2.2.2.2.2.2.2.2.2.2.2.2.2.2.2.2.2.1 /\ Sc xs p' := by
 obtain ⟨v, p1, h1, m1, D1⟩ := zec 600 (n := 300) (by omega) D
 have e1 : i64 (1000 + v) = 1000 + v := Zu (by omega)
 obtain ⟨L, p2, h2, hl, hL, D2⟩ := zyz (1000 + v) (by omega) 4 0 600 p1 [] rfl (by omega) D1 rfl (λ i h => by cases h)
 obtain ⟨x, y, z, p3, h3, D3⟩ := zu6 D2
 obtain ⟨u4, p4, h4, m4, D4⟩ := zec 600 (n := 40) (by omega) D3
 obtain ⟨u5, p5, h5, m5, D5⟩ := zy3 600 [0, 0, 5, 500] (by simp) D4
 replace h5 : zrR 600 ([[AV.v (.int .i64 0)], [AV.v (.int .i64 0)], [AV.v (.int .i64 5)], [AV.v (.int .i64 500)]], zt xs, p4) = some (u5, zt xs, p5) := h5
 obtain ⟨u6, p6, h6, m6, D6⟩ := zec 600 (n := 3) (by omega) D5
 replace h2 : (jj 600).L 600 (1, 1000 + v, 0, zt xs, p1, z8, z10 0, []) = some (1000 + v, zt xs, p2, z8, z10 L.length, fl zy L) := h2
 unfold z8 z10 at h2
 simp only [zmc, FSpec.d, zvF]
 have hd : (fl zy L).drop ((0 + Int.toNat 0) * 9) = zy L[0] ++ fl zy (L.drop 1) := zhX zy 9 zaV L 0 0 (by omega) (by omega)
 have hz : (0 <= (0 : Int) /\ (0 : Int) < (L.length : Int)) := by omega
 simp only [h1, e1, zmd, h2, hz, and_self, if_true, hd, ziK, h3, h4, h5, h6]
 by_cases hc : u6 > 0
 ·obtain ⟨u7, p7, h7, m7, D7⟩ := zec 600 (n := 400) (by omega) D6
  obtain ⟨u8, p8, h8, m8, D8⟩ := zec 600 (n := 60) (by omega) D7
  simp only [hc, decide_true, h7, h8, fl1]
  have e9 : i64 (u7 + u8) = u7 + u8 := Zu (by omega)
  simp only [e9]
  exact ⟨_, _, _, rfl, rfl, hl, hL, by dsimp only; omega, D8⟩
 ·simp only [hc, decide_false, fl1]
  exact ⟨_, _, _, rfl, rfl, hl, hL, Int.le_refl 0, D6⟩
def pick (n i : Nat) : RT1 := (AB, st i, LC, CH, 1000 + 400 * n + i, 1000 + 400 * n + i, 1000 + 400 * n + i + 2, 7, 0, ())
def pks (n f c : Nat) : List RT1 := (List.range' f (c - f)).map (pick n)
theorem Jn (n f c : Nat) : (pks n f c).length = c - f := by simp [pks]
theorem zuT (n i : Nat) : zhC i (pick n i) := ⟨rfl, rfl, rfl, rfl, rfl⟩
theorem zfY (L : List RT1) (k j : Nat) (hk : k < L.length) (hj : j < 9) (a : AV) (b : RT1) (hb : splice (zy L[k]) j [a] = zy b) : splice (fl zy L) ((0 + ((k : Int)).toNat) * 9 + j) [a] = fl zy (L.set k b) := by
 rw [Nat.zero_add, Int.toNat_natCast]
 exact zpe zy 9 zaV L k j hk [a] b hb (by simp; omega)
theorem zvs (m : Int) (cnt n : Nat) (e : zyf) (ob : List AV) (hob : ob.map dat0 = ob) {xs : List Int} (hn : n <= 100) : ∀ (d k f : Nat) (p : Int) (L : List RT1), k + d = L.length -> d < f -> L.length <= 4 -> e.2.2.2.2.2.2.2.2.2.1 = L.length -> (∀ i (h : i < L.length), zhC i L[i]) -> (∀ i (h : i < L.length), i < k -> L[i] = pick n i) ->
  (zap 600).L f (m, cnt, (n : Int), (L.length : Int), (k : Int), zt xs, p, e, fl zy L, ob) = some (m, cnt, (n : Int), zt xs, p, e, fl zy (pks n 0 L.length), ob) := by
 intro d
 induction d with
 | zero =>
  intro k f p L hk hf hL he hO hP
  obtain ⟨f, rfl⟩ := pS hf
  show (zap 600).b _ _ ((zap 600).L f) some = _
  simp only [zap]
  have e2 : decide ((k : Int) < L.length) = false := dF (by omega)
  have e3 : L = pks n 0 L.length := by
   refine List.ext_getElem (by simp [pks]) λ i h1 h2 => ?_
   rw [hP i h1 (by omega)]
   simp [pks]
  simp only [e2, fl1, hob]
  rw [<- e3]
 | succ d ih =>
  intro k f p L hk hf hL he hO hP
  obtain ⟨f, rfl⟩ := pS hf
  have hkl : k < L.length := by omega
  obtain ⟨o1, o2, o3, o4, o5⟩ := hO k hkl
  obtain ⟨q, hq⟩ : ∃ q, L[k] = q := ⟨_, rfl⟩
  rw [hq] at o1 o2 o3 o4 o5
  obtain ⟨q1, q2, q3, q4, q5, q6, q7, q8, q9, _⟩ := q
  subst o1 o2 o3 o4 o5
  have ih' := ih (k + 1) f p (L.set k (pick n k)) (by simp; omega) (by omega) (by simpa using hL) (by simpa using he) (λ i h => by
   rw [List.getElem_set]
   split
   ·rename_i e; subst e; exact zuT n _
   ·exact hO i (by simpa using h)) (λ i h hi => by
   rw [List.getElem_set]
   split
   ·rename_i e; subst e; rfl
   ·exact hP i (by simpa using h) (by omega))
  rw [List.length_set] at ih'
  show (zap 600).b _ _ ((zap 600).L f) some = _
  obtain ⟨Lf, hLf⟩ : ∃ Lf, Lf = (zap 600).L f := ⟨_, rfl⟩
  rw [<- hLf] at ih' |-
  simp only [zap]
  have e2 : decide ((k : Int) < L.length) = true := dT (by omega)
  have e3 : i64 (400 * (n : Int)) = 400 * n := Zu (by omega)
  have e4 : i64 (1000 + 400 * (n : Int)) = 1000 + 400 * n := Zu (by omega)
  have e5 : i64 (1000 + 400 * (n : Int) + k) = 1000 + 400 * n + k := Zu (by omega)
  have e6 : i64 (1000 + 400 * (n : Int) + k + 2) = 1000 + 400 * n + k + 2 := Zu (by omega)
  have e7 : i64 ((k : Int) + 1) = ((k + 1 : Nat) : Int) := by rw [Zu (by omega)]; omega
  have hz : (0 <= (k : Int) /\ (k : Int) < (L.length : Int)) := by omega
  have s1 := zfY L k 4 hkl (by omega) (AV.v (.int .i64 (1000 + 400 * n + k))) (AB, st k, LC, CH, 1000 + 400 * n + k, q6, q7, q8, 0, ()) (by rw [hq]; rfl)
  have s2 := zfY (L.set k (AB, st k, LC, CH, 1000 + 400 * n + k, q6, q7, q8, 0, ())) k 5 (by simpa using hkl) (by omega) (AV.v (.int .i64 (1000 + 400 * n + k))) (AB, st k, LC, CH, 1000 + 400 * n + k, 1000 + 400 * n + k, q7, q8, 0, ()) (by rw [List.getElem_set_self]; rfl)
  have s3 := zfY (L.set k (AB, st k, LC, CH, 1000 + 400 * n + k, 1000 + 400 * n + k, q7, q8, 0, ())) k 6 (by simpa using hkl) (by omega) (AV.v (.int .i64 (1000 + 400 * n + k + 2))) (AB, st k, LC, CH, 1000 + 400 * n + k, 1000 + 400 * n + k, 1000 + 400 * n + k + 2, q8, 0, ()) (by rw [List.getElem_set_self]; rfl)
  have s4 := zfY (L.set k (AB, st k, LC, CH, 1000 + 400 * n + k, 1000 + 400 * n + k, 1000 + 400 * n + k + 2, q8, 0, ())) k 7 (by simpa using hkl) (by omega) (AV.v (.int .i64 7)) (pick n k) (by rw [List.getElem_set_self]; rfl)
  rw [List.set_set] at s2 s3 s4
  have g : ∀ (L' : List RT1) (j : Nat), L'.length = L.length -> j < 9 -> (0 + ((k : Int)).toNat) * 9 + j + 1 <= (fl zy L').length := λ L' j h1 h2 => by
   rw [zw1, h1, Nat.zero_add, Int.toNat_natCast]; omega
  simp only [e2, e3, e4, e5, e6, e7, he, hz, and_self, if_true, s1, s2, s3, s4, g L 4 rfl (by omega), g _ 5 (List.length_set) (by omega), g _ 6 (List.length_set) (by omega), g _ 7 (List.length_set) (by omega), fl1, hob]
  exact ih'
def EvAt (n : Nat) (e : RT0) : Prop := ∃ f c, f < c /\ c <= 4 /\ f <= 1 /\ nmE e = pick n f /\ pkE e = (pks n f c).map zy /\ loE e <= hiE e
def Evs (lo hi : Nat) : List RT0 -> Prop
 | [] => lo <= hi
 | e :: r => ∃ n, lo <= n /\ EvAt n e /\ Evs (n + 1) hi r
theorem Evs.mono : ∀ {L : List RT0} {lo hi hi' : Nat}, Evs lo hi L -> hi <= hi' -> Evs lo hi' L
 | [], lo, hi, hi', h, hh => Nat.le_trans h hh
 | e :: r, lo, hi, hi', h, hh => by
  obtain ⟨n, h1, h2, h3⟩ := h
  exact ⟨n, h1, h2, h3.mono hh⟩
theorem Evs.snoc : ∀ {L : List RT0} {lo n : Nat} {e : RT0}, Evs lo n L -> EvAt n e -> Evs lo (n + 1) (L ++ [e])
 | [], lo, n, e, h, he => ⟨n, h, he, Nat.le_refl _⟩
 | a :: r, lo, n, e, h, he => by
  obtain ⟨m, h1, h2, h3⟩ := h
  exact ⟨m, h1, h2, h3.snoc he⟩
theorem zi1 (n r c : Nat) (h : r <= c) : (fl zy (pks n 0 c)).drop (r * 9) = fl zy (pks n r c) := by
 have e : pks n 0 c = pks n 0 r ++ pks n r c := by
  unfold pks
  rw [<- List.map_append, Nat.sub_zero, Nat.sub_zero]
  congr 1
  rw [show c = r + (c - r) by omega, <- List.range'_append_1]
  simp
 rw [e]
 unfold fl
 rw [List.map_append, List.flatten_append]
 have := zw1 (pks n 0 r)
 unfold fl at this
 rw [Jn, Nat.sub_zero] at this
 rw [<- this, List.drop_left]
theorem zuC (m : Nat) {xs : List Int} (hm : m <= 20) : ∀ (d n f : Nat) (p : Int) (A : List RT0), n + d = m -> d < f -> Sc xs p -> A.length <= n -> Evs 0 n A ->
  ∃ (A' : List RT0) (p' : Int), (zaU 600).L f (A.length, (m : Int), (n : Int), zt xs, p, fl zB A) = some (A'.length, zt xs, p', fl zB A') /\ A'.length <= m /\ Evs 0 m A' /\ Sc xs p' := by
 intro d
 induction d with
 | zero =>
  intro n f p A hk hf D hA hE
  obtain ⟨f, rfl⟩ := pS hf
  refine ⟨A, p, ?_, by omega, by rw [<- hk]; exact hE, D⟩
  show (zaU 600).b _ _ ((zaU 600).L f) some = _
  simp only [zaU]
  have e2 : decide ((n : Int) < (m : Int)) = false := dF (by omega)
  simp only [e2, fl0]
 | succ d ih =>
  intro n f p A hk hf D hA hE
  obtain ⟨f, rfl⟩ := pS hf
  have e2 : decide ((n : Int) < (m : Int)) = true := dT (by omega)
  have e7 : i64 ((n : Int) + 1) = ((n + 1 : Nat) : Int) := by rw [Zu (by omega)]; omega
  obtain ⟨v, p1, h1, m1, D1⟩ := zec 600 (n := 3) (by omega) D
  by_cases hv : v = 0
  ·obtain ⟨A', p', r1, r2, r3, r4⟩ := ih (n + 1) f p1 A (by omega) (by omega) D1 (by omega) (hE.mono (by omega))
   refine ⟨A', p', ?_, r2, r3, r4⟩
   show (zaU 600).b _ _ ((zaU 600).L f) some = _
   generalize (zaU 600).L f = Lf at r1 |-
   simp only [zaU]
   have e3 : (v == 0) = true := by simp [hv]
   simp only [e2, h1, e3, e7, fl0]
   exact r1
  ·have e3 : (v == 0) = false := by simp [hv]
   obtain ⟨e, L, p2, h2, hl, hl2, hL, hlo, D2⟩ := zEh D1
   have h3 := zvs (m : Int) A.length n e (fl zB A) (fl0 A) (xs := xs) (by omega) L.length 0 600 p2 L (by omega) (by omega) (by omega) hl hL (λ i h hi => by omega)
   replace h3 : (zap 600).L 600 ((m : Int), A.length, (n : Int), (L.length : Int), 0, zt xs, p2, e, fl zy L, fl zB A) = some ((m : Int), A.length, (n : Int), zt xs, p2, e, fl zy (pks n 0 L.length), fl zB A) := h3
   obtain ⟨w, p3, h4, m4, D3⟩ := zec 600 (n := 2) (by omega) D2
   have e4 : i64 (((L.length : Nat) : Int) - 1) = ((L.length - 1 : Nat) : Int) := by rw [Zu (by omega)]; omega
   obtain ⟨r, hr⟩ : ∃ r : Nat, (if ((L.length - 1 : Nat) : Int) < w then ((L.length - 1 : Nat) : Int) else w) = (r : Int) /\ r <= 1 /\ r < L.length := by
    by_cases hc : ((L.length - 1 : Nat) : Int) < w
    ·exact ⟨L.length - 1, by rw [if_pos hc], by omega, by omega⟩
    ·exact ⟨w.toNat, by rw [if_neg hc]; omega, by omega, by omega⟩
   obtain ⟨hr, hr1, hr2⟩ := hr
   obtain ⟨q, hq⟩ : ∃ q : RT0, q = ((pick n r).1, (pick n r).2.1, (pick n r).2.2.1, (pick n r).2.2.2.1, (pick n r).2.2.2.2.1, (pick n r).2.2.2.2.2.1, (pick n r).2.2.2.2.2.2.1, (pick n r).2.2.2.2.2.2.2.1, (pick n r).2.2.2.2.2.2.2.2.1, (pks n r L.length).map zy, e.2.2.2.2.2.2.2.2.2.2) := ⟨_, rfl⟩
   have hqe : EvAt n q := ⟨r, L.length, hr2, hl2.2, hr1, by rw [hq], by rw [hq], by rw [hq]; exact hlo⟩
   obtain ⟨A', p', r1, r2, r3, r4⟩ := ih (n + 1) f p3 (A ++ [q]) (by omega) (by omega) D3 (by simp; omega) (hE.snoc hqe)
   refine ⟨A', p', ?_, r2, r3, r4⟩
   show (zaU 600).b _ _ ((zaU 600).L f) some = _
   generalize (zaU 600).L f = Lf at r1 |-
   rw [List.length_append] at r1
   simp only [zaU]
   have hz1 : (0 <= (r : Int) /\ (r : Int) <= (L.length : Int)) := by omega
   have hz2 : (0 <= (0 : Int) /\ (0 : Int) < ((L.length - r : Nat) : Int)) := by omega
   have hd1 : (fl zy (pks n 0 L.length)).drop ((0 + r + Int.toNat 0) * 9) = zy (pick n r) ++ fl zy (pks n (r + 1) L.length) := by
    rw [show (0 + r + Int.toNat 0) * 9 = r * 9 by simp, zi1 n r _ (by omega)]
    have : pks n r L.length = pick n r :: pks n (r + 1) L.length := by
     unfold pks
     rw [show L.length - r = (L.length - (r + 1)) + 1 by omega, List.range'_succ]
     rfl
    rw [this]
    rfl
   have hd2 : J5 (0 + r) 9 (fl zy (pks n 0 L.length)) = fl zy (pks n r L.length) := by
    rw [zi0, Nat.zero_add, zi1 n r _ (by omega)]
   have hg1 : (L.length - r) * 9 <= (fl zy (pks n r L.length)).length := by rw [zw1, Jn]; omega
   have hch : zK ((fl zy (pks n r L.length)).take ((L.length - r) * 9)) 9 (L.length - r) = (pks n r L.length).map zy := zgT zy 9 zaV (λ _ => rfl) _ _ (by rw [Jn])
   have hg2 : (A.length * 25 <= (fl zB A).length /\ (A.length + [zB q].length) * 248 <= zg) := by
    rw [zBJ]; unfold zg; simp; omega
   simp only [e2, h1, e3, h2, hl, fl1, fl0, h3, h4, e4, hr, hz1, Int.toNat_natCast, hz2, and_self, if_true, hd1, ziK, hd2, hg1, hch]
   simp only [<- hq, hg2, and_self, if_true, e7]
   rw [app0 A q _ rfl, fl0]
   exact r1
theorem zpb (m : Nat) (hm : m <= 20) {xs : List Int} {p : Int} (D : Sc xs p) : ∃ (A : List RT0) (p' : Int), zwK 600 ((m : Int), zt xs, p) = some (A.map zB, zt xs, p') /\ A.length <= m /\ Evs 0 m A /\ Sc xs p' := by
 obtain ⟨A, p', h1, h2, h3, h4⟩ := zuC m hm m 0 600 p [] (by omega) (by omega) D (by simp) (Nat.le_refl 0)
 refine ⟨A, p', ?_, h2, h3, h4⟩
 replace h1 : (zaU 600).L 600 (0, (m : Int), 0, zt xs, p, []) = some (A.length, zt xs, p', fl zB A) := h1
 simp only [zwK, FSpec.d, zEu, zBc, h1]
 have hg : A.length * 25 <= (fl zB A).length := by rw [zBJ]; exact Nat.le_refl _
 simp only [hg, if_true, zgT zB 25 zfn (λ _ => rfl) A _ rfl]
end Go.Proofs.YthdgnfcbehcplaaDoor
end
section
namespace Go.Proofs.YthdgnfcbehcplaaDoor
@[reducible] def eqP (a b : RT1) : Bool := (((a.1 == b.1) && ((a.2.1 == b.2.1) && ((a.2.2.1 == b.2.2.1) && ((a.2.2.2.1 == b.2.2.2.1) && true)))) && ((a.2.2.2.2.1 == b.2.2.2.2.1) && ((a.2.2.2.2.2.1 == b.2.2.2.2.2.1) && ((a.2.2.2.2.2.2.1 == b.2.2.2.2.2.2.1) && ((a.2.2.2.2.2.2.2.1 == b.2.2.2.2.2.2.2.1) && ((a.2.2.2.2.2.2.2.2.1 == b.2.2.2.2.2.2.2.2.1) && true))))))
theorem zwO {a b : ByteArray} : (a == b) = true ↔ a = b := by
 constructor
 ·intro h
  obtain ⟨x⟩ := a
  obtain ⟨y⟩ := b
  have : (x == y) = true := h
  rw [eq_of_beq this]
 ·rintro rfl
  obtain ⟨x⟩ := a
  exact beq_self_eq_true x
theorem JN (a : RT1) : eqP a a = true := by
 simp only [eqP, Bool.and_eq_true, beq_self_eq_true, zwO, and_self]
theorem zwS {a b : RT1} (h : eqP a b = true) : a = b := by
 obtain ⟨a1, a2, a3, a4, a5, a6, a7, a8, a9, a10⟩ := a
 obtain ⟨b1, b2, b3, b4, b5, b6, b7, b8, b9, b10⟩ := b
 simp only [eqP, Bool.and_eq_true, beq_iff_eq, zwO] at h
 obtain ⟨⟨h1, h2, h3, h4, -⟩, h5, h6, h7, h8, h9, -⟩ := h
 subst h1 h2 h3 h4 h5 h6 h7 h8 h9
 rfl
theorem zaY {a b : RT1} (h : a ≠ b) : eqP a b = false := by
 cases e : eqP a b with
 | false => rfl
 | true => exact absurd (zwS e) h
theorem zd9 (P : List RT1) (k : Nat) (h : k < P.length) : (P.map zy)[k]? = some (zy P[k]) := by simp [h]
theorem zcm (P : List RT0) (k : Nat) (h : k < P.length) : (P.map zB)[k]? = some (zB P[k]) := by simp [h]
theorem zu {α : Type} {P : List α} {k : Nat} (h : k < P.length) (p : α) : p ∈ P.drop k ↔ p = P[k] \/ p ∈ P.drop (k + 1) := by
 rw [List.drop_eq_getElem_cons h, List.mem_cons]
theorem zp {k : Nat} (h : k < 1000000) : i64 ((k : Int) + 1) = ((k + 1 : Nat) : Int) := by rw [Zu (by omega)]; omega
theorem zlg (P : List RT1) (p : RT1) (hP : P.length <= 500) : ∀ (d k f : Nat), k + d = P.length -> d < f -> ∃ y, (ja 600).L f (P.map zy, (P.length : Int), (k : Int), p) = some y /\ ((p ∈ P.drop k /\ ∃ j : Nat, y = .inl (j : Int)) \/ (p ∉ P.drop k /\ y = .inr ())) := by
 intro d
 induction d with
 | zero =>
  intro k f hk hf
  obtain ⟨f, rfl⟩ := pS hf
  refine ⟨.inr (), ?_, .inr ⟨by rw [List.drop_eq_nil_of_le (by omega)]; simp, rfl⟩⟩
  show (ja 600).b _ _ ((ja 600).L f) some = _
  simp only [ja]
  have e2 : decide ((k : Int) < (P.length : Int)) = false := dF (by omega)
  simp only [e2]
 | succ d ih =>
  intro k f hk hf
  obtain ⟨f, rfl⟩ := pS hf
  have hkl : k < P.length := by omega
  have e2 : decide ((k : Int) < (P.length : Int)) = true := dT (by omega)
  have e3 : (0 : Int) <= (k : Int) := by omega
  by_cases hc : p = P[k]
  ·refine ⟨.inl (k : Int), ?_, .inl ⟨(zu hkl p).2 (.inl hc), k, rfl⟩⟩
   show (ja 600).b _ _ ((ja 600).L f) some = _
   simp only [ja]
   have e4 : eqP p P[k] = true := by rw [<- hc]; exact JN p
   simp only [e2, e3, if_true, Int.toNat_natCast, zd9 P k hkl, ZX, e4]
  ·obtain ⟨y, r1, r2⟩ := ih (k + 1) f (by omega) (by omega)
   refine ⟨y, ?_, ?_⟩
   ·show (ja 600).b _ _ ((ja 600).L f) some = _
    generalize (ja 600).L f = Lf at r1 |-
    simp only [ja]
    have e4 : eqP p P[k] = false := zaY hc
    simp only [e2, e3, if_true, Int.toNat_natCast, zd9 P k hkl, ZX, e4, zp (show k < 1000000 by omega)]
    exact r1
   ·rcases r2 with ⟨h1, h2⟩ | ⟨h1, h2⟩
    ·exact .inl ⟨(zu hkl p).2 (.inr h1), h2⟩
    ·exact .inr ⟨λ h => ((zu hkl p).1 h).elim hc h1, h2⟩
theorem zhN (P : List RT1) (p : RT1) (hP : P.length <= 500) : ∃ b, zxW 600 (P.map zy, p) = some b /\ (b = true ↔ p ∈ P) := by
 obtain ⟨y, h1, h2⟩ := zlg P p hP P.length 0 600 (by omega) (by omega)
 replace h1 : (ja 600).L 600 (P.map zy, (P.length : Int), 0, p) = some y := h1
 rw [List.drop_zero] at h2
 simp only [zxW, FSpec.d, zkG, zA4, zkU, zwG, List.length_map, h1]
 rcases h2 with ⟨h2, j, rfl⟩ | ⟨h2, rfl⟩
 ·exact ⟨_, rfl, by simp [h2]⟩
 ·exact ⟨_, rfl, by simp [h2]⟩
def Com (P Q : List RT1) : Prop := ∃ p ∈ P, p ∈ Q
theorem zil (P Q : List RT1) (e : RT0) (he : pkE e = Q.map zy) (hP : P.length <= 500) (hQ : Q.length <= 500) : ∀ (d k f : Nat), k + d = P.length -> d < f -> ∃ y, (Z9 600).L f (P.map zy, (P.length : Int), (k : Int), e) = some y /\ ((Com (P.drop k) Q /\ ∃ j : Nat, y = .inl ((j : Int), e)) \/ (¬ Com (P.drop k) Q /\ y = .inr e)) := by
 intro d
 induction d with
 | zero =>
  intro k f hk hf
  obtain ⟨f, rfl⟩ := pS hf
  refine ⟨.inr e, ?_, .inr ⟨by (rw [List.drop_eq_nil_of_le (by omega)]; rintro ⟨p, h, -⟩; cases h), rfl⟩⟩
  show (Z9 600).b _ _ ((Z9 600).L f) some = _
  simp only [Z9]
  have e2 : decide ((k : Int) < (P.length : Int)) = false := dF (by omega)
  simp only [e2]
 | succ d ih =>
  intro k f hk hf
  obtain ⟨f, rfl⟩ := pS hf
  have hkl : k < P.length := by omega
  have e2 : decide ((k : Int) < (P.length : Int)) = true := dT (by omega)
  have e3 : (0 : Int) <= (k : Int) := by omega
  obtain ⟨b, hb, hb2⟩ := zhN Q P[k] hQ
  rw [<- he] at hb
  have hs : zxV 600 (P[k], e) = some (b, e) := by
   simp only [zxV, FSpec.d, zkF]
   simp only [hb]
  cases b with
  | true =>
   refine ⟨.inl ((k : Int), e), ?_, .inl ⟨⟨P[k], (zu hkl _).2 (.inl rfl), hb2.1 rfl⟩, k, rfl⟩⟩
   show (Z9 600).b _ _ ((Z9 600).L f) some = _
   simp only [Z9]
   simp only [e2, e3, if_true, Int.toNat_natCast, zd9 P k hkl, ZX, hs]
  | false =>
   obtain ⟨y, r1, r2⟩ := ih (k + 1) f (by omega) (by omega)
   refine ⟨y, ?_, ?_⟩
   ·show (Z9 600).b _ _ ((Z9 600).L f) some = _
    generalize (Z9 600).L f = Lf at r1 |-
    simp only [Z9]
    simp only [e2, e3, if_true, Int.toNat_natCast, zd9 P k hkl, ZX, hs, zp (show k < 1000000 by omega)]
    exact r1
   ·rcases r2 with ⟨⟨p, q1, q2⟩, h2⟩ | ⟨h1, h2⟩
    ·exact .inl ⟨⟨p, (zu hkl p).2 (.inr q1), q2⟩, h2⟩
    ·refine .inr ⟨λ ⟨p, q1, q2⟩ => ?_, h2⟩
     rcases (zu hkl p).1 q1 with e | e
     ·subst e; exact absurd (hb2.2 q2) (by simp)
     ·exact h1 ⟨p, e, q2⟩
theorem zpY (P Q : List RT1) (a e : RT0) (ha : pkE a = P.map zy) (he : pkE e = Q.map zy) (hP : P.length <= 500) (hQ : Q.length <= 500) : ∃ b, zm2 600 (a, e) = some b /\ (b = true ↔ Com P Q) := by
 obtain ⟨y, h1, h2⟩ := zil P Q e he hP hQ P.length 0 600 (by omega) (by omega)
 replace h1 : (Z9 600).L 600 (P.map zy, (P.length : Int), 0, e) = some y := h1
 rw [List.drop_zero] at h2
 have ha' : a.2.2.2.2.2.2.2.2.2.1 = P.map zy := ha
 simp only [zm2, FSpec.d, zki, zAv, zkE, zA2, zkT, zwF, ha', List.length_map, h1]
 rcases h2 with ⟨h2, j, rfl⟩ | ⟨h2, rfl⟩
 ·exact ⟨_, rfl, by simp [h2]⟩
 ·exact ⟨_, rfl, by simp [h2]⟩
end Go.Proofs.YthdgnfcbehcplaaDoor
end
section
namespace Go.Proofs.YthdgnfcbehcplaaDoor
theorem nm0 (e : RT0) : Jy ((zB e).drop 0) = some (nmE e) := rfl
theorem zp0 (n f c : Nat) (hn : n < 5) (h1 : f < c) (h2 : c <= 4) (h3 : f <= 1) : zAo 600 ((pks n f c).map zy) = some true := by
 rcases (show n = 0 \/ n = 1 \/ n = 2 \/ n = 3 \/ n = 4 by omega) with rfl | rfl | rfl | rfl | rfl <;> rcases (show (f = 0 /\ c = 1) \/ (f = 0 /\ c = 2) \/ (f = 0 /\ c = 3) \/ (f = 0 /\ c = 4) \/ (f = 1 /\ c = 2) \/ (f = 1 /\ c = 3) \/ (f = 1 /\ c = 4) by omega) with ⟨rfl, rfl⟩ | ⟨rfl, rfl⟩ | ⟨rfl, rfl⟩ | ⟨rfl, rfl⟩ | ⟨rfl, rfl⟩ | ⟨rfl, rfl⟩ | ⟨rfl, rfl⟩ <;> kernel_rfl
theorem zyK (n f c : Nat) (hn : n < 5) (h1 : f < c) (h2 : c <= 4) (h3 : f <= 1) : zAr 600 ((pks n f c).map zy) = some (pick n f) := by
 rcases (show n = 0 \/ n = 1 \/ n = 2 \/ n = 3 \/ n = 4 by omega) with rfl | rfl | rfl | rfl | rfl <;> rcases (show (f = 0 /\ c = 1) \/ (f = 0 /\ c = 2) \/ (f = 0 /\ c = 3) \/ (f = 0 /\ c = 4) \/ (f = 1 /\ c = 2) \/ (f = 1 /\ c = 3) \/ (f = 1 /\ c = 4) by omega) with ⟨rfl, rfl⟩ | ⟨rfl, rfl⟩ | ⟨rfl, rfl⟩ | ⟨rfl, rfl⟩ | ⟨rfl, rfl⟩ | ⟨rfl, rfl⟩ | ⟨rfl, rfl⟩ <;> kernel_rfl
theorem zvc (n f c : Nat) (hn : n < 5) (h1 : f < c) (h2 : c <= 4) (h3 : f <= 1) : zAI 600 ((pks n f c).map zy) = some (pick n f) := by
 rcases (show n = 0 \/ n = 1 \/ n = 2 \/ n = 3 \/ n = 4 by omega) with rfl | rfl | rfl | rfl | rfl <;> rcases (show (f = 0 /\ c = 1) \/ (f = 0 /\ c = 2) \/ (f = 0 /\ c = 3) \/ (f = 0 /\ c = 4) \/ (f = 1 /\ c = 2) \/ (f = 1 /\ c = 3) \/ (f = 1 /\ c = 4) by omega) with ⟨rfl, rfl⟩ | ⟨rfl, rfl⟩ | ⟨rfl, rfl⟩ | ⟨rfl, rfl⟩ | ⟨rfl, rfl⟩ | ⟨rfl, rfl⟩ | ⟨rfl, rfl⟩ <;> kernel_rfl
theorem zve (n f c : Nat) (hn : n < 5) (h1 : f < c) (h2 : c <= 4) (h3 : f <= 1) : zAQ 600 ((pks n f c).map zy) = some ((pks n f c).map zy) := by
 rcases (show n = 0 \/ n = 1 \/ n = 2 \/ n = 3 \/ n = 4 by omega) with rfl | rfl | rfl | rfl | rfl <;> rcases (show (f = 0 /\ c = 1) \/ (f = 0 /\ c = 2) \/ (f = 0 /\ c = 3) \/ (f = 0 /\ c = 4) \/ (f = 1 /\ c = 2) \/ (f = 1 /\ c = 3) \/ (f = 1 /\ c = 4) by omega) with ⟨rfl, rfl⟩ | ⟨rfl, rfl⟩ | ⟨rfl, rfl⟩ | ⟨rfl, rfl⟩ | ⟨rfl, rfl⟩ | ⟨rfl, rfl⟩ | ⟨rfl, rfl⟩ <;> kernel_rfl
theorem zvd (n f c : Nat) (hn : n < 5) (h1 : f < c) (h2 : c <= 4) (h3 : f <= 1) : zhx 600 ((pks n f c).map zy, (pks n f c).map zy) = some true := by
 rcases (show n = 0 \/ n = 1 \/ n = 2 \/ n = 3 \/ n = 4 by omega) with rfl | rfl | rfl | rfl | rfl <;> rcases (show (f = 0 /\ c = 1) \/ (f = 0 /\ c = 2) \/ (f = 0 /\ c = 3) \/ (f = 0 /\ c = 4) \/ (f = 1 /\ c = 2) \/ (f = 1 /\ c = 3) \/ (f = 1 /\ c = 4) by omega) with ⟨rfl, rfl⟩ | ⟨rfl, rfl⟩ | ⟨rfl, rfl⟩ | ⟨rfl, rfl⟩ | ⟨rfl, rfl⟩ | ⟨rfl, rfl⟩ | ⟨rfl, rfl⟩ <;> kernel_rfl
theorem zpy (n m f g : Nat) (hn : n < m) (hm : m < 5) (hf : f <= 1) (hg : g <= 1) : zxQ 600 (pick n f, pick m g) = some (-1) /\ zx3 600 (pick n f, pick m g) = some (-1) := by
 rcases (show (n = 0 /\ m = 1) \/ (n = 0 /\ m = 2) \/ (n = 0 /\ m = 3) \/ (n = 0 /\ m = 4) \/ (n = 1 /\ m = 2) \/ (n = 1 /\ m = 3) \/ (n = 1 /\ m = 4) \/ (n = 2 /\ m = 3) \/ (n = 2 /\ m = 4) \/ (n = 3 /\ m = 4) by omega) with ⟨rfl, rfl⟩ | ⟨rfl, rfl⟩ | ⟨rfl, rfl⟩ | ⟨rfl, rfl⟩ | ⟨rfl, rfl⟩ | ⟨rfl, rfl⟩ | ⟨rfl, rfl⟩ | ⟨rfl, rfl⟩ | ⟨rfl, rfl⟩ | ⟨rfl, rfl⟩ <;> rcases (show f = 0 \/ f = 1 by omega) with rfl | rfl <;> rcases (show g = 0 \/ g = 1 by omega) with rfl | rfl <;> exact ⟨by kernel_rfl, by kernel_rfl⟩
@[reducible] def tmP (p : RT1) : Int := p.2.2.2.2.1
theorem zjp {n f c : Nat} (hc : c <= 4) : ∀ p ∈ pks n f c, 1000 + 400 * (n : Int) <= tmP p /\ tmP p < 1000 + 400 * (n + 1 : Nat) := λ p hp => by
 obtain ⟨i, hi, rfl⟩ := List.mem_map.1 hp
 rw [List.mem_range'] at hi
 obtain ⟨j, hj, rfl⟩ := hi
 simp only [tmP, pick]
 omega
theorem zjo {n i m j : Nat} (hi : i < 4) (hj : j < 4) (h : pick n i = pick m j) : n = m /\ i = j := by
 have := congrArg tmP h
 simp only [tmP, pick] at this
 omega
theorem zpK (n f c : Nat) (hc : c <= 4) : (pks n f c).Pairwise λ a b => a ≠ b := by
 unfold pks
 rw [List.pairwise_map]
 refine (List.pairwise_lt_range' (s := f) (n := c - f)).imp_of_mem λ {a b} ha hb hab h => ?_
 rw [List.mem_range'] at ha hb
 obtain ⟨i, hi, rfl⟩ := ha
 obtain ⟨j, hj, rfl⟩ := hb
 have := zjo (by omega) (by omega) h
 omega
theorem zEg (a b : RT1) : zae (zy a) (zy b) = eqP a b := by
 show (a.1 == b.1 && (a.2.1 == b.2.1 && (a.2.2.1 == b.2.2.1 && (a.2.2.2.1 == b.2.2.2.1 && (a.2.2.2.2.1 == b.2.2.2.2.1 && (a.2.2.2.2.2.1 == b.2.2.2.2.2.1 && (a.2.2.2.2.2.2.1 == b.2.2.2.2.2.2.1 && (a.2.2.2.2.2.2.2.1 == b.2.2.2.2.2.2.2.1 && (a.2.2.2.2.2.2.2.2.1 == b.2.2.2.2.2.2.2.2.1 && true))))))))) = _
 simp only [eqP, Bool.and_true, Bool.and_assoc]
theorem zwZ : ∀ (M : List RT1) (p : RT1), p ∉ M -> zh8 (zy p) (M.map zy) = false /\ zco (zy p) (zy p) (M.map zy) = (M ++ [p]).map zy
 | [], p, h => ⟨rfl, rfl⟩
 | q :: M, p, h => by
  have h1 : p ≠ q := λ e => h (by rw [e]; exact List.mem_cons_self)
  obtain ⟨i1, i2⟩ := zwZ M p (λ e => h (List.mem_cons_of_mem _ e))
  have e : zae (zy p) (zy q) = false := by rw [zEg]; exact zaY h1
  refine ⟨?_, ?_⟩
  ·unfold zh8 at i1 |-
   simp only [List.map_cons, za4, e]
   exact i1
  ·simp only [List.map_cons, zco, e, i2, List.cons_append]
theorem zpX (A B : List (List AV)) (la i : Int) (P : List RT1) (hP : P.length <= 500) (hd : P.Pairwise λ a b => a ≠ b) : ∀ (d k f : Nat) (M : List RT1), k + d = P.length -> d < f -> (∀ p ∈ P.drop k, p ∉ M) -> (ZO 600).L f (A, B, P.map zy, la, i, (P.length : Int), (k : Int), M.map zy) = some (.inr (A, B, la, i, (M ++ P.drop k).map zy)) := by
 intro d
 induction d with
 | zero =>
  intro k f M hk hf hM
  obtain ⟨f, rfl⟩ := pS hf
  show (ZO 600).b _ _ ((ZO 600).L f) some = _
  simp only [ZO]
  have e2 : decide ((k : Int) < (P.length : Int)) = false := dF (by omega)
  simp only [e2]
  rw [List.drop_eq_nil_of_le (by omega), List.append_nil]
 | succ d ih =>
  intro k f M hk hf hM
  obtain ⟨f, rfl⟩ := pS hf
  have hkl : k < P.length := by omega
  have e2 : decide ((k : Int) < (P.length : Int)) = true := dT (by omega)
  have e3 : (0 : Int) <= (k : Int) := by omega
  obtain ⟨m1, m2⟩ := zwZ M P[k] (hM _ ((zu hkl _).2 (.inl rfl)))
  have r1 := ih (k + 1) f (M ++ [P[k]]) (by omega) (by omega) (λ p hp hm => by
   rcases List.mem_append.1 hm with h | h
   ·exact hM p ((zu hkl p).2 (.inr hp)) h
   ·have h := List.mem_singleton.1 h
    obtain ⟨j, hj, e⟩ := List.getElem_of_mem hp
    rw [List.getElem_drop] at e
    rw [List.length_drop] at hj
    exact List.pairwise_iff_getElem.1 hd k (k + 1 + j) hkl (by omega) (by omega) (by rw [e, h]))
  show (ZO 600).b _ _ ((ZO 600).L f) some = _
  generalize (ZO 600).L f = Lf at r1 |-
  simp only [ZO]
  simp only [e2, e3, if_true, Int.toNat_natCast, zd9 P k hkl, ZX, m1, m2, zp (show k < 1000000 by omega)]
  rw [r1, List.append_assoc]
  congr 4
  rw [List.drop_eq_getElem_cons hkl]
  rfl
theorem zeV (A : List RT0) (hA : A.length <= 5) : ∀ (R : List RT0) (k lo f : Nat) (M : List RT1), A.drop k = R -> R.length < f -> k + R.length = A.length -> Evs lo 5 R -> (∀ q ∈ M, tmP q < 1000 + 400 * (lo : Int)) -> (∀ (h : 0 < k) (h' : k - 1 < A.length), ∃ n g, n < lo /\ g <= 1 /\ nmE A[k - 1] = pick n g) ->
  (jD 600).L f (A.map zB, A.map zB, (A.length : Int), (k : Int), M.map zy) = some (.inr ())
 | [], k, lo, f, M, hR, hf, hk, hE, hM, hN => by
  obtain ⟨f, rfl⟩ := pS hf
  show (jD 600).b _ _ ((jD 600).L f) some = _
  simp only [jD]
  have e2 : decide ((k : Int) < (A.length : Int)) = false := by rw [decide_eq_false_iff_not]; simp at hk; omega
  simp only [e2]
 | e :: R, k, lo, f, M, hR, hf, hk, hE, hM, hN => by
  obtain ⟨f, rfl⟩ := pS hf
  rw [List.length_cons] at hf hk
  have hkl : k < A.length := by omega
  have hek : A[k] = e := by
   have := List.drop_eq_getElem_cons hkl
   rw [hR] at this
   exact (List.cons.inj this).1.symm
  obtain ⟨n, hn, ⟨g, c, c1, c2, c3, c4, c5, c6⟩, hE'⟩ := hE
  have hn5 : n + 1 <= 5 := by
   have : ∀ (L : List RT0) (lo hi : Nat), Evs lo hi L -> lo <= hi := λ L => by
    induction L with
    | nil => exact λ lo hi h => h
    | cons a L ih => exact λ lo hi ⟨n, h1, _, h3⟩ => by have := ih _ _ h3; omega
   exact this _ _ _ hE'
  have e2 : decide ((k : Int) < (A.length : Int)) = true := dT (by omega)
  have e3 : (0 : Int) <= (k : Int) := by omega
  have r1 := zeV A hA R (k + 1) (n + 1) f (M ++ pks n g c) (by rw [<- List.tail_drop, hR]; rfl) (by omega) (by omega) hE' (λ q hq => by
   rcases List.mem_append.1 hq with h | h
   ·have := hM q h; omega
   ·exact (zjp c2 q h).2) (λ _ h' => ⟨n, g, by omega, c3, by simp only [Nat.add_sub_cancel]; rw [hek]; exact c4⟩)
  have s1 := zp0 n g c (by omega) c1 c2 c3
  have s2 := zyK n g c (by omega) c1 c2 c3
  have sl := zpX (A.map zB) (A.map zB) (A.length : Int) (k : Int) (pks n g c) (by rw [Jn]; omega) (zpK n g c c2) (pks n g c).length 0 600 M (by omega) (by rw [Jn]; omega) (λ p hp hm => by
   have h1 := (zjp c2 p hp).1
   have h2 := hM p hm
   omega)
  rw [List.drop_zero] at sl
  replace sl : (ZO 600).L 600 (A.map zB, A.map zB, (pks n g c).map zy, (A.length : Int), (k : Int), ((pks n g c).length : Int), 0, M.map zy) = some (.inr (A.map zB, A.map zB, (A.length : Int), (k : Int), (M ++ pks n g c).map zy)) := sl
  have c5' : e.2.2.2.2.2.2.2.2.2.1 = (pks n g c).map zy := c5
  have e4 : (((pks n g c).length : Int) == 0) = false := by rw [Jn]; simp; omega
  have e5 : eqP (nmE e) (pick n g) = true := by rw [c4]; exact JN _
  show (jD 600).b _ _ ((jD 600).L f) some = _
  generalize (jD 600).L f = Lf at r1 |-
  simp only [jD]
  simp only [e2, e3, if_true, Int.toNat_natCast, zcm A k hkl, hek, ZD, c5', List.length_map, e4, s1, s2, e5, Bool.not_true]
  by_cases hk0 : (k : Int) > 0
  ·have hk1 : i64 ((k : Int) - 1) = ((k - 1 : Nat) : Int) := by rw [Zu (by omega)]; omega
   obtain ⟨n', g', z1, z2, z3⟩ := hN (by omega) (by omega)
   have hl := (zpy n' n g' g (by omega) (by omega) z2 c3).1
   rw [<- c4] at hl
   rw [<- z3] at hl
   have e6 : decide ((-1 : Int) >= 0) = false := by decide
   have e7 : (0 : Int) <= ((k - 1 : Nat) : Int) := by omega
   simp only [hk0, decide_true, hk1, e7, if_true, Int.toNat_natCast, zcm A (k - 1) (by omega), nm0, hl, e6, sl, zp (show k < 1000000 by omega)]
   exact r1
  ·simp only [hk0, decide_false, sl, zp (show k < 1000000 by omega)]
   exact r1
theorem zdr {L : List RT0} {lo hi : Nat} : Evs lo hi L -> L.length + lo <= hi := by
 induction L generalizing lo with
 | nil => intro h; have h' : lo <= hi := h; rw [List.length_nil]; omega
 | cons a L ih => exact λ ⟨n, h1, _, h3⟩ => by have := ih h3; rw [List.length_cons]; omega
theorem zaI {A : List RT0} {m : Nat} (hm : m <= 5) (h : Evs 0 m A) : zhp 600 (A.map zB) = some true := by
 have hl := zdr h
 have := zeV A (by omega) A 0 0 600 [] rfl (by omega) (by omega) (h.mono hm) (λ q hq => by cases hq) (λ h => by omega)
 replace this : (jD 600).L 600 (A.map zB, A.map zB, (A.length : Int), 0, []) = some (.inr ()) := this
 simp only [zhp, FSpec.d, zj3, zvN, List.length_map, this]
def zaq (e : RT0) : Prop := ∃ P : List RT1, P.length <= 4 /\ pkE e = P.map zy
theorem EvAt.pk {n : Nat} {e : RT0} (h : EvAt n e) : zaq e := by
 obtain ⟨f, c, h1, h2, h3, h4, h5, h6⟩ := h
 exact ⟨pks n f c, by rw [Jn]; omega, h5⟩
theorem Evs.all : ∀ {E : List RT0} {lo hi : Nat}, Evs lo hi E -> ∀ e ∈ E, ∃ n, lo <= n /\ n < hi /\ EvAt n e
 | [], lo, hi, h, e, he => by cases he
 | a :: E, lo, hi, h, e, he => by
  obtain ⟨n, h1, h2, h3⟩ := h
  have := zdr h3
  rcases List.mem_cons.1 he with h | h
  ·subst h; exact ⟨n, h1, by omega, h2⟩
  ·obtain ⟨m, q1, q2, q3⟩ := h3.all e h
   exact ⟨m, by omega, q2, q3⟩
theorem Evs.names : ∀ {E : List RT0} {lo hi : Nat}, Evs lo hi E -> E.Pairwise λ a b => nmE a ≠ nmE b
 | [], lo, hi, h => .nil
 | a :: E, lo, hi, h => by
  obtain ⟨n, h1, ⟨f, c, c1, c2, c3, c4, c5, c6⟩, h3⟩ := h
  refine .cons (λ b hb e => ?_) h3.names
  obtain ⟨m, q1, q2, f', c', z1, z2, z3, z4, z5, z6⟩ := h3.all b hb
  rw [c4, z4] at e
  have := zjo (by omega) (by omega) e
  omega
theorem Evs.pk {E : List RT0} {lo hi : Nat} (h : Evs lo hi E) : ∀ e ∈ E, zaq e := λ e he => by
 obtain ⟨n, _, _, q⟩ := h.all e he
 exact q.pk
structure EvOk (E : List RT0) : Prop where
 v : zhp 600 (E.map zB) = some true
 l : E.length <= 5
 names : E.Pairwise λ a b => nmE a ≠ nmE b
 pk : ∀ e ∈ E, zaq e
theorem Evs.ok {E : List RT0} {m : Nat} (hm : m <= 5) (h : Evs 0 m E) : EvOk E := ⟨zaI hm h, by have := zdr h; omega, h.names, h.pk⟩
end Go.Proofs.YthdgnfcbehcplaaDoor
end
section
namespace Go.Proofs.YthdgnfcbehcplaaDoor
theorem zBs (A B : List (List AV)) (P Q : List RT1) (i : Nat) (hi : i < P.length) (hA : A = P.map zy) (hB : B = Q.map zy) (hQ : Q.length <= 500) : ∀ (d k f : Nat), k + d = Q.length -> d < f -> ∃ y, (Zy 600).L f (A, B, (i : Int), (k : Int)) = some y /\ ((P[i] ∈ Q.drop k /\ y = .inl (A, B, true, (i : Int))) \/ (P[i] ∉ Q.drop k /\ y = .inr (A, B, (i : Int)))) := by
 subst hA hB
 intro d
 induction d with
 | zero =>
  intro k f hk hf
  obtain ⟨f, rfl⟩ := pS hf
  refine ⟨_, ?_, .inr ⟨by rw [List.drop_eq_nil_of_le (by omega)]; simp, rfl⟩⟩
  show (Zy 600).b _ _ ((Zy 600).L f) some = _
  simp only [Zy]
  have e2 : decide ((k : Int) < (Q.length : Int)) = false := dF (by omega)
  simp only [List.length_map, e2]
 | succ d ih =>
  intro k f hk hf
  obtain ⟨f, rfl⟩ := pS hf
  have hkl : k < Q.length := by omega
  have e2 : decide ((k : Int) < (Q.length : Int)) = true := dT (by omega)
  have e3 : (0 : Int) <= (k : Int) := by omega
  have e4 : (0 : Int) <= (i : Int) := by omega
  by_cases hc : P[i] = Q[k]
  ·refine ⟨_, ?_, .inl ⟨(zu hkl _).2 (.inl hc), rfl⟩⟩
   show (Zy 600).b _ _ ((Zy 600).L f) some = _
   simp only [Zy]
   have e5 : eqP P[i] Q[k] = true := by rw [hc]; exact JN _
   simp only [List.length_map, e2, e3, e4, if_true, Int.toNat_natCast, zd9 Q k hkl, zd9 P i hi, ZX, e5]
  ·obtain ⟨y, r1, r2⟩ := ih (k + 1) f (by omega) (by omega)
   refine ⟨y, ?_, ?_⟩
   ·show (Zy 600).b _ _ ((Zy 600).L f) some = _
    generalize (Zy 600).L f = Lf at r1 |-
    simp only [Zy]
    have e5 : eqP P[i] Q[k] = false := zaY hc
    simp only [List.length_map, e2, e3, e4, if_true, Int.toNat_natCast, zd9 Q k hkl, zd9 P i hi, ZX, e5, zp (show k < 1000000 by omega)]
    exact r1
   ·rcases r2 with ⟨h1, h2⟩ | ⟨h1, h2⟩
    ·exact .inl ⟨(zu hkl _).2 (.inr h1), h2⟩
    ·exact .inr ⟨λ h => ((zu hkl _).1 h).elim hc h1, h2⟩
theorem zyt (P Q : List RT1) (hP : P.length <= 500) (hQ : Q.length <= 500) : ∀ (d k f : Nat), k + d = P.length -> d < f -> ∃ y, (Z7 600).L f (P.map zy, Q.map zy, (k : Int)) = some y /\ ((Com (P.drop k) Q /\ y = .inl true) \/ (¬ Com (P.drop k) Q /\ y = .inr ())) := by
 intro d
 induction d with
 | zero =>
  intro k f hk hf
  obtain ⟨f, rfl⟩ := pS hf
  refine ⟨_, ?_, .inr ⟨by (rw [List.drop_eq_nil_of_le (by omega)]; rintro ⟨p, h, -⟩; cases h), rfl⟩⟩
  show (Z7 600).b _ _ ((Z7 600).L f) some = _
  simp only [Z7]
  have e2 : decide ((k : Int) < (P.length : Int)) = false := dF (by omega)
  simp only [List.length_map, e2]
 | succ d ih =>
  intro k f hk hf
  obtain ⟨f, rfl⟩ := pS hf
  have hkl : k < P.length := by omega
  have e2 : decide ((k : Int) < (P.length : Int)) = true := dT (by omega)
  obtain ⟨z, q1, q2⟩ := zBs _ _ P Q k hkl rfl rfl hQ Q.length 0 600 (by omega) (by omega)
  replace q1 : (Zy 600).L 600 (P.map zy, Q.map zy, (k : Int), 0) = some z := q1
  rw [List.drop_zero] at q2
  rcases q2 with ⟨g1, rfl⟩ | ⟨g1, rfl⟩
  ·refine ⟨_, ?_, .inl ⟨⟨P[k], (zu hkl _).2 (.inl rfl), g1⟩, rfl⟩⟩
   show (Z7 600).b _ _ ((Z7 600).L f) some = _
   simp only [Z7]
   simp only [List.length_map, e2, zhz, q1]
  ·obtain ⟨y, r1, r2⟩ := ih (k + 1) f (by omega) (by omega)
   refine ⟨y, ?_, ?_⟩
   ·show (Z7 600).b _ _ ((Z7 600).L f) some = _
    generalize (Z7 600).L f = Lf at r1 |-
    simp only [Z7]
    simp only [List.length_map, e2, zhz, q1, zp (show k < 1000000 by omega)]
    exact r1
   ·rcases r2 with ⟨⟨p, h1, h2⟩, h3⟩ | ⟨h1, h2⟩
    ·exact .inl ⟨⟨p, (zu hkl _).2 (.inr h1), h2⟩, h3⟩
    ·refine .inr ⟨λ ⟨p, h, h'⟩ => ?_, h2⟩
     rcases (zu hkl _).1 h with e | e
     ·subst e; exact g1 h'
     ·exact h1 ⟨p, e, h'⟩
theorem zEb (P Q : List RT1) (hP : P.length <= 500) (hQ : Q.length <= 500) : ∃ b, zx4 600 (P.map zy, Q.map zy) = some b /\ (b = true ↔ Com P Q) := by
 obtain ⟨y, h1, h2⟩ := zyt P Q hP hQ P.length 0 600 (by omega) (by omega)
 replace h1 : (Z7 600).L 600 (P.map zy, Q.map zy, 0) = some y := h1
 rw [List.drop_zero] at h2
 simp only [zx4, FSpec.d, zkN, zwx, h1]
 rcases h2 with ⟨h2, rfl⟩ | ⟨h2, rfl⟩
 ·exact ⟨_, rfl, by simp [h2]⟩
 ·exact ⟨_, rfl, by simp [h2]⟩
theorem zBq (A B : List (List AV)) (P Q : List RT1) (i : Nat) (hi : i < P.length) (hA : A = P.map zy) (hB : B = Q.map zy) (hQ : Q.length <= 500) : ∀ (d k f : Nat), k + d = Q.length -> d < f -> ∃ y, (Zz 600).L f (A, B, (i : Int), (k : Int)) = some y /\ ((P[i] ∈ Q.drop k /\ y = .inl (A, B, true, (i : Int))) \/ (P[i] ∉ Q.drop k /\ y = .inr (A, B, (i : Int)))) := by
 subst hA hB
 intro d
 induction d with
 | zero =>
  intro k f hk hf
  obtain ⟨f, rfl⟩ := pS hf
  refine ⟨_, ?_, .inr ⟨by rw [List.drop_eq_nil_of_le (by omega)]; simp, rfl⟩⟩
  show (Zz 600).b _ _ ((Zz 600).L f) some = _
  simp only [Zz]
  have e2 : decide ((k : Int) < (Q.length : Int)) = false := dF (by omega)
  simp only [List.length_map, e2]
 | succ d ih =>
  intro k f hk hf
  obtain ⟨f, rfl⟩ := pS hf
  have hkl : k < Q.length := by omega
  have e2 : decide ((k : Int) < (Q.length : Int)) = true := dT (by omega)
  have e3 : (0 : Int) <= (k : Int) := by omega
  have e4 : (0 : Int) <= (i : Int) := by omega
  by_cases hc : P[i] = Q[k]
  ·refine ⟨_, ?_, .inl ⟨(zu hkl _).2 (.inl hc), rfl⟩⟩
   show (Zz 600).b _ _ ((Zz 600).L f) some = _
   simp only [Zz]
   have e5 : eqP P[i] Q[k] = true := by rw [hc]; exact JN _
   simp only [List.length_map, e2, e3, e4, if_true, Int.toNat_natCast, zd9 Q k hkl, zd9 P i hi, ZX, e5]
  ·obtain ⟨y, r1, r2⟩ := ih (k + 1) f (by omega) (by omega)
   refine ⟨y, ?_, ?_⟩
   ·show (Zz 600).b _ _ ((Zz 600).L f) some = _
    generalize (Zz 600).L f = Lf at r1 |-
    simp only [Zz]
    have e5 : eqP P[i] Q[k] = false := zaY hc
    simp only [List.length_map, e2, e3, e4, if_true, Int.toNat_natCast, zd9 Q k hkl, zd9 P i hi, ZX, e5, zp (show k < 1000000 by omega)]
    exact r1
   ·rcases r2 with ⟨h1, h2⟩ | ⟨h1, h2⟩
    ·exact .inl ⟨(zu hkl _).2 (.inr h1), h2⟩
    ·exact .inr ⟨λ h => ((zu hkl _).1 h).elim hc h1, h2⟩
theorem zys (P Q : List RT1) (hP : P.length <= 500) (hQ : Q.length <= 500) : ∀ (d k f : Nat), k + d = P.length -> d < f -> ∃ y, (Z8 600).L f (P.map zy, Q.map zy, (k : Int)) = some y /\ ((Com (P.drop k) Q /\ y = .inl true) \/ (¬ Com (P.drop k) Q /\ y = .inr ())) := by
 intro d
 induction d with
 | zero =>
  intro k f hk hf
  obtain ⟨f, rfl⟩ := pS hf
  refine ⟨_, ?_, .inr ⟨by (rw [List.drop_eq_nil_of_le (by omega)]; rintro ⟨p, h, -⟩; cases h), rfl⟩⟩
  show (Z8 600).b _ _ ((Z8 600).L f) some = _
  simp only [Z8]
  have e2 : decide ((k : Int) < (P.length : Int)) = false := dF (by omega)
  simp only [List.length_map, e2]
 | succ d ih =>
  intro k f hk hf
  obtain ⟨f, rfl⟩ := pS hf
  have hkl : k < P.length := by omega
  have e2 : decide ((k : Int) < (P.length : Int)) = true := dT (by omega)
  obtain ⟨z, q1, q2⟩ := zBq _ _ P Q k hkl rfl rfl hQ Q.length 0 600 (by omega) (by omega)
  replace q1 : (Zz 600).L 600 (P.map zy, Q.map zy, (k : Int), 0) = some z := q1
  rw [List.drop_zero] at q2
  rcases q2 with ⟨g1, rfl⟩ | ⟨g1, rfl⟩
  ·refine ⟨_, ?_, .inl ⟨⟨P[k], (zu hkl _).2 (.inl rfl), g1⟩, rfl⟩⟩
   show (Z8 600).b _ _ ((Z8 600).L f) some = _
   simp only [Z8]
   simp only [List.length_map, e2, zhA, q1]
  ·obtain ⟨y, r1, r2⟩ := ih (k + 1) f (by omega) (by omega)
   refine ⟨y, ?_, ?_⟩
   ·show (Z8 600).b _ _ ((Z8 600).L f) some = _
    generalize (Z8 600).L f = Lf at r1 |-
    simp only [Z8]
    simp only [List.length_map, e2, zhA, q1, zp (show k < 1000000 by omega)]
    exact r1
   ·rcases r2 with ⟨⟨p, h1, h2⟩, h3⟩ | ⟨h1, h2⟩
    ·exact .inl ⟨⟨p, (zu hkl _).2 (.inr h1), h2⟩, h3⟩
    ·refine .inr ⟨λ ⟨p, h, h'⟩ => ?_, h2⟩
     rcases (zu hkl _).1 h with e | e
     ·subst e; exact g1 h'
     ·exact h1 ⟨p, e, h'⟩
theorem zEc (P Q : List RT1) (hP : P.length <= 500) (hQ : Q.length <= 500) : ∃ b, ztj 600 (P.map zy, Q.map zy) = some b /\ (b = true ↔ Com P Q) := by
 obtain ⟨y, h1, h2⟩ := zys P Q hP hQ P.length 0 600 (by omega) (by omega)
 replace h1 : (Z8 600).L 600 (P.map zy, Q.map zy, 0) = some y := h1
 rw [List.drop_zero] at h2
 simp only [ztj, FSpec.d, zkP, zwy, h1]
 rcases h2 with ⟨h2, rfl⟩ | ⟨h2, rfl⟩
 ·exact ⟨_, rfl, by simp [h2]⟩
 ·exact ⟨_, rfl, by simp [h2]⟩
end Go.Proofs.YthdgnfcbehcplaaDoor
end
section
namespace Go.Proofs.YthdgnfcbehcplaaDoor
theorem pk0 (e : RT0) : (((zB e).drop 9).drop 0)[0]? = some (AV.list 9 (pkE e) none) := rfl
theorem zCi (xs : List (List AV)) : jZ 9 (AV.list 9 xs none) = some xs := by simp [jZ]
theorem zk2 (A : List RT0) (P : List RT1) (i : Nat) (hi : i <= A.length) (hA : A.length <= 500) (hP : P.length <= 500) (h : ∀ k (h : k < A.length), k < i -> ∃ Q : List RT1, Q.length <= 500 /\ pkE A[k] = Q.map zy /\ ¬ Com P Q) : ∀ (d k f : Nat), k + d = i -> d < f -> (ZR 600).L f (A.map zB, P.map zy, (i : Int), (k : Int)) = some (.inr (A.map zB, (i : Int))) := by
 intro d
 induction d with
 | zero =>
  intro k f hk hf
  obtain ⟨f, rfl⟩ := pS hf
  show (ZR 600).b _ _ ((ZR 600).L f) some = _
  simp only [ZR]
  have e2 : decide ((k : Int) < (i : Int)) = false := dF (by omega)
  simp only [e2]
 | succ d ih =>
  intro k f hk hf
  obtain ⟨f, rfl⟩ := pS hf
  have hkl : k < A.length := by omega
  have e2 : decide ((k : Int) < (i : Int)) = true := dT (by omega)
  have e3 : (0 : Int) <= (k : Int) := by omega
  obtain ⟨Q, q1, q2, q3⟩ := h k hkl (by omega)
  obtain ⟨b, b1, b2⟩ := zEb P Q hP q1
  obtain rfl : b = false := by cases b with | false => rfl | true => exact absurd (b2.1 rfl) q3
  have r1 := ih (k + 1) f (by omega) (by omega)
  show (ZR 600).b _ _ ((ZR 600).L f) some = _
  generalize (ZR 600).L f = Lf at r1 |-
  simp only [ZR]
  simp only [e2, e3, if_true, Int.toNat_natCast, zcm A k hkl, pk0, zCi, q2, b1, zp (show k < 1000000 by omega)]
  exact r1
theorem zdI (A : List RT0) (hA : A.length <= 5) : ∀ (R : List RT0) (k lo f : Nat), A.drop k = R -> R.length < f -> k + R.length = A.length -> Evs lo 5 R -> (∀ j (h : j < A.length), j < k -> ∃ n, n < lo /\ EvAt n A[j]) ->
  (jH 600).L f (A.map zB, (k : Int)) = some (.inr ())
 | [], k, lo, f, hR, hf, hk, hE, hN => by
  obtain ⟨f, rfl⟩ := pS hf
  show (jH 600).b _ _ ((jH 600).L f) some = _
  simp only [jH]
  have e2 : decide ((k : Int) < (A.length : Int)) = false := by rw [decide_eq_false_iff_not]; simp at hk; omega
  simp only [List.length_map, e2]
 | e :: R, k, lo, f, hR, hf, hk, hE, hN => by
  obtain ⟨f, rfl⟩ := pS hf
  rw [List.length_cons] at hf hk
  have hkl : k < A.length := by omega
  have hek : A[k] = e := by
   have := List.drop_eq_getElem_cons hkl
   rw [hR] at this
   exact (List.cons.inj this).1.symm
  obtain ⟨n, hn, hev, hE'⟩ := hE
  have hn5 := zdr hE'
  have r1 := zdI A hA R (k + 1) (n + 1) f (by rw [<- List.tail_drop, hR]; rfl) (by omega) (by omega) hE' (λ j h hj => by
   by_cases hc : j = k
   ·subst hc; exact ⟨n, by omega, by rw [hek]; exact hev⟩
   ·obtain ⟨m, h1, h2⟩ := hN j h (by omega); exact ⟨m, by omega, h2⟩)
  obtain ⟨g, c, c1, c2, c3, c4, c5, c6⟩ := hev
  have e2 : decide ((k : Int) < (A.length : Int)) = true := dT (by omega)
  have e3 : (0 : Int) <= (k : Int) := by omega
  have s1 := zvc n g c (by omega) c1 c2 c3
  have s2 := zve n g c (by omega) c1 c2 c3
  have s3 := zvd n g c (by omega) c1 c2 c3
  have sl := zk2 A (pks n g c) k (by omega) (by omega) (by rw [Jn]; omega) (λ j h hj => by
   obtain ⟨m, h1, g', c', z1, z2, z3, z4, z5, z6⟩ := hN j h hj
   refine ⟨pks m g' c', by rw [Jn]; omega, z5, λ ⟨p, q1, q2⟩ => ?_⟩
   have t1 := (zjp c2 p q1).1
   have t2 := (zjp z2 p q2).2
   omega) k 0 600 (by omega) (by omega)
  replace sl : (ZR 600).L 600 (A.map zB, (pks n g c).map zy, (k : Int), 0) = some (.inr (A.map zB, (k : Int))) := sl
  have e4 : (((pks n g c).length : Int) == 0) = false := by rw [Jn]; simp; omega
  have e5 : eqP (nmE e) (pick n g) = true := by rw [c4]; exact JN _
  show (jH 600).b _ _ ((jH 600).L f) some = _
  generalize (jH 600).L f = Lf at r1 |-
  simp only [jH]
  simp only [List.length_map, e2, e3, if_true, Int.toNat_natCast, zcm A k hkl, hek, pk0, zCi, c5, e4, nm0, s1, s2, s3, e5, Bool.not_true]
  by_cases hk0 : (k : Int) > 0
  ·have hk1 : i64 ((k : Int) - 1) = ((k - 1 : Nat) : Int) := by rw [Zu (by omega)]; omega
   obtain ⟨n', z0, g', c', z1, z2, z3, z4, z5, z6⟩ := hN (k - 1) (by omega) (by omega)
   have hl := (zpy n' n g' g (by omega) (by omega) z3 c3).2
   rw [<- c4] at hl
   rw [<- z4] at hl
   have e6 : decide ((-1 : Int) >= 0) = false := by decide
   have e7 : (0 : Int) <= ((k - 1 : Nat) : Int) := by omega
   simp only [hk0, decide_true, hk1, e7, if_true, Int.toNat_natCast, zcm A (k - 1) (by omega), nm0, hl, e6, zfe, sl, zp (show k < 1000000 by omega)]
   exact r1
  ·simp only [hk0, decide_false, zfe, sl, zp (show k < 1000000 by omega)]
   exact r1
theorem zb6 {A : List RT0} {m : Nat} (hm : m <= 5) (h : Evs 0 m A) : zfd 600 (A.map zB) = some true := by
 have hl := zdr h
 have := zdI A (by omega) A 0 0 600 rfl (by omega) (by omega) (h.mono hm) (λ j _ hj => by omega)
 replace this : (jH 600).L 600 (A.map zB, 0) = some (.inr ()) := this
 simp only [zfd, FSpec.d, zks, zwb, this]
end Go.Proofs.YthdgnfcbehcplaaDoor
end
section
namespace Go.Proofs.YthdgnfcbehcplaaDoor
theorem zuj : zzF 600 () = some true := by kernel_rfl
theorem f8a (N : Nat) (x) : Jk N x = zc4 N x := by kernel_rfl
theorem f7a (N : Nat) (x) : zAN N x = zDC N x := by kernel_rfl
theorem f9a (N : Nat) (x) : zt6 N x = zwK N x := by kernel_rfl
@[reducible] def kdV (v : RT7) : Int := v.1
@[reducible] def atV (v : RT7) : Int := v.2.1
@[reducible] def byV (v : RT7) : ByteArray := v.2.2.1
@[reducible] def inV (v : RT7) : Int := v.2.2.2.1
@[reducible] def evV (v : RT7) : RT0 := v.2.2.2.2
def zzu (x : List RT7) : List AV := [AV.list 29 (x.map zQ) none]
def zO (C : List (List RT7)) : List (List AV) := C.map zzu
theorem zT (C : List (List RT7)) : (zO C).length = C.length := by simp [zO]
theorem zS (C : List (List RT7)) (k : Nat) (h : k < C.length) : (zO C)[k]? = some (zzu C[k]) := by simp [zO, h]
theorem zza (x : List RT7) : zdO (zzu x) = some (x.map zQ, ()) := by
 show dec RK6 [AV.list 29 (x.map zQ) none] = _
 simp only [dec, zo9, jZ, if_true]
theorem zw7 (x : List RT7) : ((zzu x).drop 0)[0]? = some (AV.list 29 (x.map zQ) none) := rfl
theorem zBK (xs : List (List AV)) : jZ 29 (AV.list 29 xs none) = some xs := by simp [jZ]
theorem zuI (P : List RT7) (k : Nat) (h : k < P.length) : (P.map zQ)[k]? = some (zQ P[k]) := by simp [h]
theorem rd7 (v : RT7) : zkY (zQ v) = some v := zyg v
def ann : ByteArray := ⟨#[97, 110, 110]⟩
def bob : ByteArray := ⟨#[98, 111, 98]⟩
def nob : ByteArray := ⟨#[]⟩
def Per (b : ByteArray) : Prop := b = ann \/ b = bob
theorem zpJ {b : ByteArray} (h : Per b) : zsU 600 b = some true /\ zsJ 600 b = some true /\ (b.toList == nob.toList) = false := by
 rcases h with rfl | rfl
 ·exact ⟨by kernel_rfl, by kernel_rfl, by kernel_rfl⟩
 ·exact ⟨by kernel_rfl, by kernel_rfl, by kernel_rfl⟩
def ZA (k : Int) : Bool := k == 1 || (k == 2 || k == 6)
def jN (k : Int) : Bool := k == 1 || (k == 3 || k == 6)
def zBy (k u : Int) : Bool := if k = 1 then ZA u else if k = 2 then (u == 1 || u == 6) else if k = 6 then !(ZA u) else true
def zcn (k : Int) : Bool := k != 1 && k != 3
theorem zg8 (N : Nat) (v : RT7) : ze0 N v = some (ZA (kdV v)) := by
 simp only [ze0, FSpec.d, zjP, ZA]
 cases v.1 == 1 <;> cases v.1 == 2 <;> cases v.1 == 6 <;> rfl
theorem zpZ (N : Nat) (v : RT7) : zqA N v = some (jN (kdV v)) := by
 simp only [zqA, FSpec.d, zjQ, jN]
 cases v.1 == 1 <;> cases v.1 == 3 <;> cases v.1 == 6 <;> rfl
theorem zBz (N : Nat) (v u : RT7) : zkV N (v, u) = some (zBy (kdV v) (kdV u)) := by
 simp only [zkV, FSpec.d, zkW, zBy, zg8]
 by_cases h1 : v.1 = 1
 ·simp [h1]
 ·by_cases h2 : v.1 = 2
  ·simp [h2]
   cases u.1 == 1 <;> simp
  ·by_cases h6 : v.1 = 6
   ·simp [h6]
   ·have e1 : (v.1 == 1) = false := by simpa using h1
    have e2 : (v.1 == 2) = false := by simpa using h2
    have e6 : (v.1 == 6) = false := by simpa using h6
    simp only [e1, e2, e6, if_neg h1, if_neg h2, if_neg h6]
theorem zpu (N : Nat) (k : Int) : zhy N k = some (zcn k) := by
 simp only [zhy, FSpec.d, zkJ, zcn]
 cases k != 1 <;> simp
def Kd6 (k : Int) : Prop := k = 1 \/ k = 2 \/ k = 3 \/ k = 4 \/ k = 5 \/ k = 6
theorem zBR {k : Int} (h : Kd6 k) : zra 600 k = some (ZA k) := by
 rcases h with rfl | rfl | rfl | rfl | rfl | rfl <;> kernel_rfl
theorem zvm {k : Int} (h : Kd6 k) : ((gtab3.map AV.v).drop (k.toNat * 1))[0]? = some (.v (.bool (k == 1 || k == 2))) := by
 rcases h with rfl | rfl | rfl | rfl | rfl | rfl <;> kernel_rfl
theorem zvn {k : Int} (h : Kd6 k) : ((gtab2.map AV.v).drop (k.toNat * 1))[0]? = some (.v (.bool (zcn k))) := by
 rcases h with rfl | rfl | rfl | rfl | rfl | rfl <;> kernel_rfl
theorem zvo {k : Int} (h : Kd6 k) : ((gtab0.map AV.v).drop (k.toNat * 1))[0]? = some (.v (.bool (jN k))) := by
 rcases h with rfl | rfl | rfl | rfl | rfl | rfl <;> kernel_rfl
theorem zzg {k u : Int} (h : Kd6 k) (hu : Kd6 u) : (((gtab1.map AV.v).drop (k.toNat * 7)).drop (u.toNat * 1))[0]? = some (.v (.bool (zBy k u))) := by
 rcases h with rfl | rfl | rfl | rfl | rfl | rfl <;> rcases hu with rfl | rfl | rfl | rfl | rfl | rfl <;> kernel_rfl
theorem Kd6.lt {k : Int} (h : Kd6 k) : 0 <= k /\ k < 7 /\ 1 <= k /\ k <= 6 := by unfold Kd6 at h; omega
def EvN (e : RT0) : Prop := ∃ n, n < 5 /\ EvAt n e
theorem EvN.one {e : RT0} (h : EvN e) : Evs 0 5 [e] := by
 obtain ⟨n, h1, h2⟩ := h
 exact ⟨n, Nat.zero_le _, h2, by show n + 1 <= 5; omega⟩
theorem zyj {e : RT0} (h : EvN e) : zfd 600 [zB e] = some true := zb6 (A := [e]) (by omega) h.one
theorem zyi {e : RT0} (h : EvN e) : zhp 600 [zB e] = some true := zaI (A := [e]) (by omega) h.one
theorem Evs.evn {E : List RT0} {m : Nat} (hm : m <= 5) (h : Evs 0 m E) : ∀ e ∈ E, EvN e := λ e he => by
 obtain ⟨n, _, h2, h3⟩ := h.all e he
 exact ⟨n, by omega, h3⟩
end Go.Proofs.YthdgnfcbehcplaaDoor
end
section
namespace Go.Proofs.YthdgnfcbehcplaaDoor
theorem zcD {P Q : List RT1} (h : P.map zy = Q.map zy) : P = Q := by
 have hi : ∀ a b : RT1, zy a = zy b -> a = b := λ a b h => by
  have := congrArg Jy h
  rw [ZX, ZX] at this
  exact Option.some.inj this
 induction P generalizing Q with
 | nil => cases Q with
  | nil => rfl
  | cons q Q => cases h
 | cons p P ih => cases Q with
  | nil => cases h
  | cons q Q =>
   simp only [List.map_cons, List.cons.injEq] at h
   rw [hi p q h.1, ih h.2]
theorem zwU {a e : RT0} (h1 : nmE a = nmE e) (h2 : zC a = zC e) : a = e := by
 have e1 : ∀ x : RT0, x = ((nmE x).1, (nmE x).2.1, (nmE x).2.2.1, (nmE x).2.2.2.1, (nmE x).2.2.2.2.1, (nmE x).2.2.2.2.2.1, (nmE x).2.2.2.2.2.2.1, (nmE x).2.2.2.2.2.2.2.1, (nmE x).2.2.2.2.2.2.2.2.1, zC x) := λ x => rfl
 rw [e1 a, e1 e, h1, h2]
theorem zy7 (P Q : List RT1) (hl : P.length = Q.length) (hP : P.length <= 500) : ∀ (d k f : Nat), k + d = P.length -> d < f -> ∃ y, (Z6 600).L f (P.map zy, Q.map zy, (k : Int)) = some y /\ ((P.drop k = Q.drop k /\ y = .inr ()) \/ (P.drop k ≠ Q.drop k /\ y = .inl false)) := by
 intro d
 induction d with
 | zero =>
  intro k f hk hf
  obtain ⟨f, rfl⟩ := pS hf
  refine ⟨_, ?_, .inl ⟨by rw [List.drop_eq_nil_of_le (by omega), List.drop_eq_nil_of_le (by omega)], rfl⟩⟩
  show (Z6 600).b _ _ ((Z6 600).L f) some = _
  simp only [Z6]
  have e2 : decide ((k : Int) < (P.length : Int)) = false := dF (by omega)
  simp only [List.length_map, e2]
 | succ d ih =>
  intro k f hk hf
  obtain ⟨f, rfl⟩ := pS hf
  have hkl : k < P.length := by omega
  have hkq : k < Q.length := by omega
  have e2 : decide ((k : Int) < (P.length : Int)) = true := dT (by omega)
  have h0 : 0 <= (k : Int) := by omega
  have dP := List.drop_eq_getElem_cons hkl
  have dQ := List.drop_eq_getElem_cons hkq
  by_cases he : P[k] = Q[k]
  ·obtain ⟨y, r1, r2⟩ := ih (k + 1) f (by omega) (by omega)
   refine ⟨y, ?_, ?_⟩
   ·show (Z6 600).b _ _ ((Z6 600).L f) some = _
    generalize (Z6 600).L f = Lf at r1 |-
    simp only [Z6]
    have ee := JN P[k]
    simp only [eqP] at ee
    simp only [List.length_map, e2, h0, if_true, Int.toNat_natCast, zd9 P k hkl, zd9 Q k hkq, ZX, <- he, ee, Bool.not_true, zp (show k < 1000000 by omega)]
    exact r1
   ·rw [dP, dQ, he]
    rcases r2 with ⟨a, b⟩ | ⟨a, b⟩
    ·exact .inl ⟨by rw [a], b⟩
    ·exact .inr ⟨λ e => a (by injection e), b⟩
  ·refine ⟨_, ?_, .inr ⟨λ e => he (by rw [dP, dQ] at e; injection e), rfl⟩⟩
   show (Z6 600).b _ _ ((Z6 600).L f) some = _
   simp only [Z6]
   have ee := zaY he
   simp only [eqP] at ee
   simp only [List.length_map, e2, h0, if_true, Int.toNat_natCast, zd9 P k hkl, zd9 Q k hkq, ZX, ee, Bool.not_false]
theorem zEo (P Q : List RT1) (hP : P.length <= 500) (hQ : Q.length <= 500) : ∃ b, zhx 600 (P.map zy, Q.map zy) = some b /\ (b = true ↔ P = Q) := by
 simp only [zhx, FSpec.d, zkI, List.length_map]
 by_cases hl : P.length = Q.length
 ·have e1 : ((P.length : Int) != (Q.length : Int)) = false := by simp [hl]
  obtain ⟨y, h1, h2⟩ := zy7 P Q hl hP P.length 0 600 (by omega) (by omega)
  replace h1 : (Z6 600).L 600 (P.map zy, Q.map zy, 0) = some y := h1
  simp only [e1, zws, h1]
  rw [List.drop_zero, List.drop_zero] at h2
  rcases h2 with ⟨a, rfl⟩ | ⟨a, rfl⟩
  ·exact ⟨_, rfl, by simp [a]⟩
  ·exact ⟨_, rfl, by simp [a]⟩
 ·have e1 : ((P.length : Int) != (Q.length : Int)) = true := by simp; omega
  have : P ≠ Q := λ e => hl (by rw [e])
  simp only [e1]
  exact ⟨_, rfl, by simp [this]⟩
theorem zyY (P Q : List RT1) (hl : P.length = Q.length) (hP : P.length <= 500) : ∀ (d k f : Nat), k + d = P.length -> d < f -> ∃ y, (Zw 600).L f (P.map zy, Q.map zy, (P.length : Int), (k : Int)) = some y /\ ((P.drop k = Q.drop k /\ y = .inr ()) \/ (P.drop k ≠ Q.drop k /\ y = .inl false)) := by
 intro d
 induction d with
 | zero =>
  intro k f hk hf
  obtain ⟨f, rfl⟩ := pS hf
  refine ⟨_, ?_, .inl ⟨by rw [List.drop_eq_nil_of_le (by omega), List.drop_eq_nil_of_le (by omega)], rfl⟩⟩
  show (Zw 600).b _ _ ((Zw 600).L f) some = _
  simp only [Zw]
  have e2 : decide ((k : Int) < (P.length : Int)) = false := dF (by omega)
  simp only [List.length_map, e2]
 | succ d ih =>
  intro k f hk hf
  obtain ⟨f, rfl⟩ := pS hf
  have hkl : k < P.length := by omega
  have hkq : k < Q.length := by omega
  have e2 : decide ((k : Int) < (P.length : Int)) = true := dT (by omega)
  have h0 : 0 <= (k : Int) := by omega
  have dP := List.drop_eq_getElem_cons hkl
  have dQ := List.drop_eq_getElem_cons hkq
  by_cases he : P[k] = Q[k]
  ·obtain ⟨y, r1, r2⟩ := ih (k + 1) f (by omega) (by omega)
   refine ⟨y, ?_, ?_⟩
   ·show (Zw 600).b _ _ ((Zw 600).L f) some = _
    generalize (Zw 600).L f = Lf at r1 |-
    simp only [Zw]
    have ee := JN P[k]
    simp only [eqP] at ee
    simp only [List.length_map, e2, h0, if_true, Int.toNat_natCast, zd9 P k hkl, zd9 Q k hkq, ZX, <- he, ee, Bool.not_true, zp (show k < 1000000 by omega)]
    exact r1
   ·rw [dP, dQ, he]
    rcases r2 with ⟨a, b⟩ | ⟨a, b⟩
    ·exact .inl ⟨by rw [a], b⟩
    ·exact .inr ⟨λ e => a (by injection e), b⟩
  ·refine ⟨_, ?_, .inr ⟨λ e => he (by rw [dP, dQ] at e; injection e), rfl⟩⟩
   show (Zw 600).b _ _ ((Zw 600).L f) some = _
   simp only [Zw]
   have ee := zaY he
   simp only [eqP] at ee
   simp only [List.length_map, e2, h0, if_true, Int.toNat_natCast, zd9 P k hkl, zd9 Q k hkq, ZX, ee, Bool.not_false]
theorem zEk (P Q : List RT1) (hP : P.length <= 500) (hQ : Q.length <= 500) : ∃ b, zf2 600 (P.map zy, Q.map zy) = some b /\ (b = true ↔ P = Q) := by
 simp only [zf2, FSpec.d, zeh, List.length_map]
 by_cases hl : P.length = Q.length
 ·have e1 : ((P.length : Int) != (Q.length : Int)) = false := by simp [hl]
  obtain ⟨y, h1, h2⟩ := zyY P Q hl hP P.length 0 600 (by omega) (by omega)
  replace h1 : (Zw 600).L 600 (P.map zy, Q.map zy, (P.length : Int), 0) = some y := h1
  simp only [e1, zlE, h1]
  rw [List.drop_zero, List.drop_zero] at h2
  rcases h2 with ⟨a, rfl⟩ | ⟨a, rfl⟩
  ·exact ⟨_, rfl, by simp [a]⟩
  ·exact ⟨_, rfl, by simp [a]⟩
 ·have e1 : ((P.length : Int) != (Q.length : Int)) = true := by simp; omega
  have : P ≠ Q := λ e => hl (by rw [e])
  simp only [e1]
  exact ⟨_, rfl, by simp [this]⟩
theorem zjr (a e : RT0) (ha : zaq a) (he : zaq e) : ∃ b, zm3 600 (zC a, zC e) = some b /\ (b = true ↔ (zC a) = (zC e)) := by
 obtain ⟨P, hP1, hP⟩ := ha
 obtain ⟨Q, hQ1, hQ⟩ := he
 obtain ⟨b, h1, h2⟩ := zEo P Q (by omega) (by omega)
 have h3 : zhx 600 ((zC a).1, (zC e).1) = some b := by
  show zhx 600 (pkE a, pkE e) = some b
  rw [hP, hQ]; exact h1
 have hpq : (zC a).1 = (zC e).1 ↔ P = Q := by
  show pkE a = pkE e ↔ P = Q
  rw [hP, hQ]
  exact ⟨λ h => zcD h, λ h => by rw [h]⟩
 generalize zC a = A at *
 generalize zC e = E at *
 simp only [zm3, FSpec.d, zkk, h3]
 cases b with
 | false => exact ⟨_, rfl, by
   constructor
   ·intro h; cases h
   ·intro h; exact absurd (h2.2 (hpq.1 (by rw [h]))) (by simp)⟩
 | true =>
  have hpe : A.1 = E.1 := hpq.2 (h2.1 rfl)
  simp only
  split
  ·rename_i c1
   split
   ·rename_i c2
    refine ⟨_, rfl, ⟨λ h => ?_, λ h => (by rw [h]; simp)⟩⟩
    simp only [Bool.and_eq_true, beq_iff_eq, and_true] at c1 c2 h
    simp [Prod.ext_iff, *]
   ·rename_i c2
    refine ⟨_, rfl, ⟨λ h => (by cases h), λ h => ?_⟩⟩
    rw [h] at c2; simp at c2
  ·rename_i c1
   refine ⟨_, rfl, ⟨λ h => (by cases h), λ h => ?_⟩⟩
   rw [h] at c1; simp at c1
theorem zif (a e : RT0) (ha : zaq a) (he : zaq e) : ∃ b, zdX 600 (a, e) = some b /\ (b = true ↔ a = e) := by
 obtain ⟨b, h1, h2⟩ := zjr a e ha he
 simp only [zdX, FSpec.d, zka, h1]
 have hae : a = e ↔ nmE a = nmE e /\ zC a = zC e := ⟨λ h => by rw [h]; exact ⟨rfl, rfl⟩, λ ⟨x, y⟩ => zwU x y⟩
 by_cases hn : nmE a = nmE e
 ·have ee := (congrArg (eqP (nmE a)) hn).symm.trans (JN (nmE a))
  simp only [eqP] at ee
  simp only [ee]
  exact ⟨b, rfl, by rw [h2, hae]; exact ⟨λ h => ⟨hn, h⟩, λ h => h.2⟩⟩
 ·have ee := zaY hn
  simp only [eqP] at ee
  simp only [ee]
  exact ⟨_, rfl, by rw [hae]; simp [hn]⟩
theorem zu2 (a e : RT0) (ha : zaq a) (he : zaq e) : ∃ b, zyc 600 (zC a, zC e) = some b /\ (b = true ↔ (zC a) = (zC e)) := by
 obtain ⟨P, hP1, hP⟩ := ha
 obtain ⟨Q, hQ1, hQ⟩ := he
 obtain ⟨b, h1, h2⟩ := zEk P Q (by omega) (by omega)
 have h3 : zf2 600 ((zC a).1, (zC e).1) = some b := by
  show zf2 600 (pkE a, pkE e) = some b
  rw [hP, hQ]; exact h1
 have hpq : (zC a).1 = (zC e).1 ↔ P = Q := by
  show pkE a = pkE e ↔ P = Q
  rw [hP, hQ]
  exact ⟨λ h => zcD h, λ h => by rw [h]⟩
 generalize zC a = A at *
 generalize zC e = E at *
 simp only [zyc, FSpec.d, zkS, h3]
 cases b with
 | false => exact ⟨_, rfl, by
   constructor
   ·intro h; cases h
   ·intro h; exact absurd (h2.2 (hpq.1 (by rw [h]))) (by simp)⟩
 | true =>
  have hpe : A.1 = E.1 := hpq.2 (h2.1 rfl)
  simp only
  split
  ·rename_i c1
   split
   ·rename_i c2
    refine ⟨_, rfl, ⟨λ h => ?_, λ h => (by rw [h]; simp)⟩⟩
    simp only [Bool.and_eq_true, beq_iff_eq, and_true] at c1 c2 h
    simp [Prod.ext_iff, *]
   ·rename_i c2
    refine ⟨_, rfl, ⟨λ h => (by cases h), λ h => ?_⟩⟩
    rw [h] at c2; simp at c2
  ·rename_i c1
   refine ⟨_, rfl, ⟨λ h => (by cases h), λ h => ?_⟩⟩
   rw [h] at c1; simp at c1
theorem zyZ (a e : RT0) (ha : zaq a) (he : zaq e) : ∃ b, zyb 600 (a, e) = some b /\ (b = true ↔ a = e) := by
 obtain ⟨b, h1, h2⟩ := zu2 a e ha he
 simp only [zyb, FSpec.d, zkR, h1]
 have hae : a = e ↔ nmE a = nmE e /\ zC a = zC e := ⟨λ h => by rw [h]; exact ⟨rfl, rfl⟩, λ ⟨x, y⟩ => zwU x y⟩
 by_cases hn : nmE a = nmE e
 ·have ee := (congrArg (eqP (nmE a)) hn).symm.trans (JN (nmE a))
  simp only [eqP] at ee
  simp only [ee]
  exact ⟨b, rfl, by rw [h2, hae]; exact ⟨λ h => ⟨hn, h⟩, λ h => h.2⟩⟩
 ·have ee := zaY hn
  simp only [eqP] at ee
  simp only [ee]
  exact ⟨_, rfl, by rw [hae]; simp [hn]⟩
theorem zi5 (a e : RT0) (ha : zaq a) (he : zaq e) : ∃ b, zj7 600 (a, e) = some b /\ (b = true ↔ a = e) := by
 obtain ⟨b, h1, h2⟩ := zyZ a e ha he
 have hL : zoC 600 ([zB e], [zB a], 1, 0) = some (bif b then .inr () else .inl false) := by
  show (jL 600).b _ _ ((jL 600).L 599) some = _
  have e1 : decide ((0 : Int) < 1) = true := by decide
  have e3 : i64 (0 + 1) = 1 := by decide
  obtain ⟨Lf, hLf⟩ : ∃ Lf, Lf = (jL 600).L 599 := ⟨_, rfl⟩
  have hz : Lf ([zB e], [zB a], 1, 1) = some (.inr ()) := by
   rw [hLf]
   show (jL 600).b _ _ ((jL 600).L 598) some = _
   simp only [jL]
   have e2 : decide ((1 : Int) < 1) = false := by decide
   simp only [e2]
  rw [<- hLf]
  simp only [jL]
  simp only [e1, Int.le_refl, if_true, Int.toNat_zero, List.getElem?_cons_zero, ZD, h1]
  cases b with
  | true => simp only [Bool.not_true, e3, hz]; rfl
  | false => simp only [Bool.not_false]; rfl
 refine ⟨b, ?_, h2⟩
 simp only [zj7, FSpec.d, zj8, zAu, zkC, zA0, zd5, List.length_cons, List.length_nil]
 have e0 : (((0 + 1 : Nat) : Int) != ((0 + 1 : Nat) : Int)) = false := by decide
 simp only [e0]
 have hL' : zoC 600 ([zB e], [zB a], ((0 + 1 : Nat) : Int), 0) = some (bif b then .inr () else .inl false) := hL
 simp only [hL']
 cases b <;> rfl
theorem EvN.pk {e : RT0} (h : EvN e) : zaq e := by
 obtain ⟨n, _, h⟩ := h
 exact h.pk
end Go.Proofs.YthdgnfcbehcplaaDoor
end
section
namespace Go.Proofs.YthdgnfcbehcplaaDoor
structure EvG (e : RT0) : Prop where
 rv : zfd 600 [zB e] = some true
 pv : zhp 600 [zB e] = some true
 pk : zaq e
theorem EvN.g {e : RT0} (h : EvN e) : EvG e := ⟨zyj h, zyi h, h.pk⟩
theorem EvG.pv' {e : RT0} (h : EvG e) : zn0 600 e = some true := by
 have := h.pv
 simp only [zn0, FSpec.d, zkH]
 simp only [this]
structure VG (T : Int) (n i : Nat) (v : RT7) : Prop where
 kd : Kd6 (kdV v)
 at0 : 0 <= atV v
 atT : atV v <= T
 by1 : (kdV v = 1 \/ kdV v = 2) -> byV v = nob
 by2 : ¬ (kdV v = 1 \/ kdV v = 2) -> Per (byV v)
 in1 : kdV v ≠ 5 -> inV v = 0
 in2 : kdV v = 5 -> 0 <= inV v /\ inV v < n /\ inV v ≠ i
 ev : EvG (evV v)
def Stp (u v : RT7) : Prop := atV u <= atV v /\ zBy (kdV v) (kdV u) = true /\ (zcn (kdV v) = true -> evV u = evV v)
structure XG (T : Int) (n i m : Nat) (x : List RT7) : Prop where
 ne : x ≠ []
 hd : ∀ h : 0 < x.length, kdV x[0] = 1
 vs : ∀ k (h : k < x.length), VG T n i x[k]
 st : ∀ k (h : k + 1 < x.length), Stp x[k] x[k + 1]
 le : x.length <= m
structure CG (T : Int) (m e : Nat) (C : List (List RT7)) : Prop where
 xs : ∀ k (h : k < C.length), XG T C.length k m C[k]
 le : C.length <= e
theorem VG.mono {T T' : Int} {n n' i : Nat} {v : RT7} (h : VG T n i v) (hT : T <= T') (hn : n <= n') : VG T' n' i v :=
 ⟨h.kd, h.at0, Int.le_trans h.atT hT, h.by1, h.by2, h.in1, λ e => by have := h.in2 e; omega, h.ev⟩
theorem XG.mono {T T' : Int} {n n' i m m' : Nat} {x : List RT7} (h : XG T n i m x) (hT : T <= T') (hn : n <= n') (hm : m <= m') : XG T' n' i m' x :=
 ⟨h.ne, h.hd, λ k hk => (h.vs k hk).mono hT hn, h.st, Nat.le_trans h.le hm⟩
theorem CG.mono {T T' : Int} {m m' e e' : Nat} {C : List (List RT7)} (h : CG T m e C) (hT : T <= T') (hm : m <= m') (he : e <= e') : CG T' m' e' C :=
 ⟨λ k hk => (h.xs k hk).mono hT (Nat.le_refl _) hm, Nat.le_trans h.le he⟩
theorem XG.pos {T : Int} {n i m : Nat} {x : List RT7} (h : XG T n i m x) : 0 < x.length := List.length_pos_iff.2 h.ne
theorem XG.snoc {T T' : Int} {n i m : Nat} {x : List RT7} {v : RT7} (h : XG T n i m x) (hT : T <= T') (hv : VG T' n i v) (hs : Stp (x.getLast h.ne) v) : XG T' n i (m + 1) (x ++ [v]) := by
 have hp := h.pos
 refine ⟨by simp, λ _ => ?_, λ k hk => ?_, λ k hk => ?_, by have := h.le; simp; omega⟩
 ·rw [List.getElem_append_left hp]; exact h.hd hp
 ·rw [List.getElem_append]
  split
  ·exact (h.vs k _).mono hT (Nat.le_refl _)
  ·simpa using hv
 ·simp at hk
  by_cases hl : k + 1 < x.length
  ·rw [List.getElem_append_left hl, List.getElem_append_left (by omega)]
   exact h.st k hl
  ·have e : k = x.length - 1 := by omega
   subst e
   rw [List.getLast_eq_getElem] at hs
   rw [List.getElem_append_left (by omega), List.getElem_append_right (by omega)]
   simpa using hs
theorem XG.one {T : Int} {n i m : Nat} {v : RT7} (hm : 1 <= m) (hv : VG T n i v) (h1 : kdV v = 1) : XG T n i m [v] :=
 ⟨by simp, λ _ => h1, λ k hk => by simp at hk; subst hk; exact hv, λ k hk => by simp at hk, hm⟩
theorem CG.set {T T' : Int} {m e i : Nat} {C : List (List RT7)} (h : CG T m e C) (hi : i < C.length) (hT : T <= T') {v : RT7} (hv : VG T' C.length i v) (hs : Stp (C[i].getLast (h.xs i hi).ne) v) : CG T' (m + 1) e (C.set i (C[i] ++ [v])) := by
 refine ⟨λ k hk => ?_, by simpa using h.le⟩
 simp at hk
 rw [List.length_set, List.getElem_set]
 split
 ·rename_i he; subst he; exact (h.xs i hi).snoc hT hv hs
 ·exact (h.xs k hk).mono hT (Nat.le_refl _) (by omega)
theorem CG.nil (T : Int) (m e : Nat) : CG T m e [] := ⟨λ k h => by simp at h, Nat.zero_le _⟩
theorem zCd {T : Int} {n i : Nat} {v : RT7} (h : VG T n i v) (k : Int) (X : List (List AV)) : zoa 600 ((i : Int), (n : Int), k, X, v) = some (.inr ((i : Int), (n : Int), k, X, v)) := by
 obtain ⟨hk, h0, hT, hb1, hb2, hi1, hi2, he⟩ := h
 obtain ⟨k1, a1, b1, i1, e1⟩ := v
 show (Jj 600).b _ _ ((Jj 600).L 599) some = _
 simp only [Jj]
 simp only [kdV, byV] at hk hb1 hb2
 have en : ((nob).toList == (⟨#[]⟩ : ByteArray).toList) = true := by kernel_rfl
 rcases hk with rfl | rfl | rfl | rfl | rfl | rfl
 ·rw [hb1 (by omega)]
  have e1 : ((1 : Int) == 1) = true := by decide
  simp only [e1, en, Bool.not_true]
 ·rw [hb1 (by omega)]
  have e1 : ((2 : Int) == 1) = false := by decide
  have e2 : ((2 : Int) == 2) = true := by decide
  simp only [e1, e2, en, Bool.not_true]
 all_goals
  have hp := (zpJ (hb2 (by omega))).1
  simp only [hp]
  rfl
theorem zhk {T : Int} {n i m : Nat} {x : List RT7} (hT : T <= 18014398509481984) (hn : n <= 10000) (hm : m <= 100) (h : XG T n i m x) (hi : i < n) : ∀ (d k f : Nat), k + d = x.length -> d < f -> (jK 600).L f ((i : Int), (n : Int), (k : Int), x.map zQ) = some (.inr (x.map zQ)) := by
 intro d
 induction d with
 | zero =>
  intro k f hk hf
  obtain ⟨f, rfl⟩ := pS hf
  show (jK 600).b _ _ ((jK 600).L f) some = _
  have e2 : decide ((k : Int) < (x.length : Int)) = false := dF (by omega)
  simp only [jK]
  simp only [List.length_map, e2]
 | succ d ih =>
  intro k f hk hf
  obtain ⟨f, rfl⟩ := pS hf
  have hkl : k < x.length := by omega
  have r1 := ih (k + 1) f (by omega) (by omega)
  show (jK 600).b _ _ ((jK 600).L f) some = _
  generalize (jK 600).L f = Lf at r1 |-
  have e2 : decide ((k : Int) < (x.length : Int)) = true := dT (by omega)
  have h0 : 0 <= (k : Int) := by omega
  have hle := h.le
  have hv := h.vs k hkl
  have c1 : decide (x[k].1 < 1) = false := by rw [decide_eq_false_iff_not]; have := hv.kd.lt; simp only [kdV] at this; omega
  have c2 : decide (x[k].1 > 6) = false := by rw [decide_eq_false_iff_not]; have := hv.kd.lt; simp only [kdV] at this; omega
  have c3 : decide (x[k].2.1 < 0) = false := by rw [decide_eq_false_iff_not]; have := hv.at0; simp only [atV] at this; omega
  have c4 : decide (x[k].2.1 > 18014398509481984) = false := by rw [decide_eq_false_iff_not]; have := hv.atT; simp only [atV] at this; omega
  have c5 : zfd 600 [zB (zx x[k])] = some true := hv.ev.rv
  have c6 := zCd hv (k : Int) (x.map zQ)
  have c7 : ∀ (b : Bool), (b = true ↔ x[k].2.2.2.1 = 0) -> (x[k].2.2.2.1 != 0) = !b := λ b hb => by
   cases b
   ·simp; intro e; simpa using hb.2 e
   ·simp [hb.1 rfl]
  simp only [jK]
  simp only [List.length_map, e2, h0, if_true, Int.toNat_natCast, zuI x k hkl, rd7, c1, c2, c3, c4, c5, Bool.not_true, c6]
  by_cases k5 : x[k].1 = 5
  ·have d1 : (x[k].1 != 5) = false := by simp [k5]
   have d2 : (x[k].1 == 5) = true := by simp [k5]
   obtain ⟨p1, p2, p3⟩ := hv.in2 k5
   simp only [inV] at p1 p2 p3
   have d3 : decide (x[k].2.2.2.1 < 0) = false := dF (by omega)
   have d4 : decide (x[k].2.2.2.1 >= (n : Int)) = false := dF (by omega)
   have d5 : (x[k].2.2.2.1 == (i : Int)) = false := by simpa using p3
   simp only [d1, d2, d3, d4, d5]
   by_cases hk0 : k = 0
   ·exfalso
    subst hk0
    have := h.hd hkl
    simp only [kdV] at this
    omega
   ·have d6 : ((k : Int) == 0) = false := by simp [hk0]
    obtain ⟨k', rfl⟩ : ∃ k', k = k' + 1 := ⟨k - 1, by omega⟩
    obtain ⟨s1, s2, s3⟩ := h.st k' hkl
    have d7 : i64 (((k' + 1 : Nat) : Int) - 1) = (k' : Int) := by rw [Zu (by omega)]; omega
    have d8 : decide (x[k' + 1].2.1 < x[k'].2.1) = false := by rw [decide_eq_false_iff_not]; simp only [atV] at s1; omega
    have d9 := zBz 600 x[k' + 1] x[k']
    have d10 := zpu 600 x[k' + 1].1
    have h0' : 0 <= (k' : Int) := by omega
    have n1 := zp (k := k' + 1) (by omega)
    rw [s2] at d9
    simp only [d6, d7, h0', if_true, Int.toNat_natCast, zuI x k' (by omega), rd7, d8, d9, Bool.not_true, d10, n1]
    cases hkp : zcn x[k' + 1].1 with
    | false => exact r1
    | true =>
     have s4 := s3 hkp
     obtain ⟨b, q1, q2⟩ := zif (evV x[k']) (evV x[k' + 1]) (h.vs k' (by omega)).ev.pk hv.ev.pk
     rw [q2.2 s4] at q1
     replace q1 : zdX 600 (zx x[k'], zx x[k' + 1]) = some true := q1
     simp only [q1, Bool.not_true]
     exact r1
  ·have d1 : (x[k].1 != 5) = true := by simp [k5]
   have d2 : (x[k].1 == 5) = false := by simp [k5]
   have d3 : (x[k].2.2.2.1 != 0) = false := by have := hv.in1 k5; simp only [inV] at this; simp [this]
   simp only [d1, d2, d3]
   by_cases hk0 : k = 0
   ·subst hk0
    have d6 : (((0 : Nat) : Int) == 0) = true := by decide
    have d7 : (x[0].1 != 1) = false := by have := h.hd hkl; simp only [kdV] at this; simp [this]
    have n1 := zp (k := 0) (by omega)
    simp only [d6, d7, n1]
    exact r1
   ·have d6 : ((k : Int) == 0) = false := by simp [hk0]
    obtain ⟨k', rfl⟩ : ∃ k', k = k' + 1 := ⟨k - 1, by omega⟩
    obtain ⟨s1, s2, s3⟩ := h.st k' hkl
    have d7 : i64 (((k' + 1 : Nat) : Int) - 1) = (k' : Int) := by rw [Zu (by omega)]; omega
    have d8 : decide (x[k' + 1].2.1 < x[k'].2.1) = false := by rw [decide_eq_false_iff_not]; simp only [atV] at s1; omega
    have d9 := zBz 600 x[k' + 1] x[k']
    have d10 := zpu 600 x[k' + 1].1
    have h0' : 0 <= (k' : Int) := by omega
    have n1 := zp (k := k' + 1) (by omega)
    rw [s2] at d9
    simp only [d6, d7, h0', if_true, Int.toNat_natCast, zuI x k' (by omega), rd7, d8, d9, Bool.not_true, d10, n1]
    cases hkp : zcn x[k' + 1].1 with
    | false => exact r1
    | true =>
     have s4 := s3 hkp
     obtain ⟨b, q1, q2⟩ := zif (evV x[k']) (evV x[k' + 1]) (h.vs k' (by omega)).ev.pk hv.ev.pk
     rw [q2.2 s4] at q1
     replace q1 : zdX 600 (zx x[k'], zx x[k' + 1]) = some true := q1
     simp only [q1, Bool.not_true]
     exact r1
end Go.Proofs.YthdgnfcbehcplaaDoor
end
section
namespace Go.Proofs.YthdgnfcbehcplaaDoor
theorem rd6 (x : List RT7) : zdO (zzu x) = some (x.map zQ, ()) := zza x
theorem zvt {T : Int} {n i m : Nat} {x : List RT7} (hT : T <= 18014398509481984) (hn : n <= 10000) (hm : m <= 100) (h : XG T n i m x) (hi : i < n) : zxY 600 (x.map zQ, (i : Int), (n : Int)) = some true := by
 have h1 : (jK 600).L 600 ((i : Int), (n : Int), 0, x.map zQ) = some (.inr (x.map zQ)) := zhk hT hn hm h hi x.length 0 600 (by omega) (by have := h.le; omega)
 have hp := h.pos
 have hl := h.le
 simp only [zxY, FSpec.d, zd4, zwv, h1, List.length_map]
 have e1 : decide ((x.length : Int) >= 1) = true := dT (by omega)
 have e2 : decide ((x.length : Int) <= 100) = true := dT (by omega)
 simp only [e1, e2]
theorem zkZ {T : Int} {m e : Nat} {C : List (List RT7)} (hT : T <= 18014398509481984) (he : e <= 500) (hm : m <= 100) (h : CG T m e C) : ∀ (d k f : Nat), k + d = C.length -> d < f -> (jG 600).L f ((k : Int), zO C) = some (.inr (zO C)) := by
 intro d
 induction d with
 | zero =>
  intro k f hk hf
  obtain ⟨f, rfl⟩ := pS hf
  show (jG 600).b _ _ ((jG 600).L f) some = _
  have e2 : decide ((k : Int) < (C.length : Int)) = false := dF (by omega)
  simp only [jG]
  simp only [zT, e2]
 | succ d ih =>
  intro k f hk hf
  obtain ⟨f, rfl⟩ := pS hf
  have hkl : k < C.length := by omega
  have r1 := ih (k + 1) f (by omega) (by omega)
  show (jG 600).b _ _ ((jG 600).L f) some = _
  generalize (jG 600).L f = Lf at r1 |-
  have e2 : decide ((k : Int) < (C.length : Int)) = true := dT (by omega)
  have h0 : 0 <= (k : Int) := by omega
  have hle := h.le
  have v1 := zvt hT (by omega) hm (h.xs k hkl) hkl
  simp only [jG]
  simp only [zT, e2, h0, if_true, Int.toNat_natCast, zS C k hkl, rd6, v1, Bool.not_true, zp (show k < 1000000 by omega)]
  exact r1
theorem zoW {T : Int} {m e : Nat} {C : List (List RT7)} (hT : T <= 18014398509481984) (he : e <= 500) (hm : m <= 100) (h : CG T m e C) : zr1 600 (zO C) = some true := by
 have hle := h.le
 have h1 : (jG 600).L 600 (0, zO C) = some (.inr (zO C)) := zkZ hT he hm h C.length 0 600 (by omega) (by omega)
 simp only [zr1, FSpec.d, zd1, zwa, h1, zT]
 have e2 : decide ((C.length : Int) <= 500) = true := dT (by omega)
 simp only [e2]
theorem za3 (x : List RT7) (h : x ≠ []) (hl : x.length <= 1000) : zcH 600 (x.map zQ) = some (x.getLast h) := by
 have hp := List.length_pos_iff.2 h
 have e1 : i64 ((x.length : Int) - 1) = ((x.length - 1 : Nat) : Int) := by rw [Zu (by omega)]; omega
 have h0 : 0 <= ((x.length - 1 : Nat) : Int) := by omega
 simp only [zcH, FSpec.d, zdT, List.length_map, e1, h0, if_true, Int.toNat_natCast, zuI x (x.length - 1) (by omega), rd7]
 rw [List.getLast_eq_getElem]
theorem zpv (x : List RT7) (h : x ≠ []) (hl : x.length <= 1000) : zmC 600 (x.map zQ) = some (x.getLast h) := za3 x h hl
theorem XG.last {T : Int} {n i m : Nat} {x : List RT7} (h : XG T n i m x) : VG T n i (x.getLast h.ne) := by
 rw [List.getLast_eq_getElem]
 exact h.vs _ _
theorem zh4 {T : Int} {m e : Nat} {C : List (List RT7)} {now : Int} (hT : T <= now) (he : e <= 500) (hm : m <= 100) (h : CG T m e C) : ∀ (d k f : Nat), k + d = C.length -> d < f -> (jI 600).L f (now, (k : Int), zO C) = some (.inr ()) := by
 intro d
 induction d with
 | zero =>
  intro k f hk hf
  obtain ⟨f, rfl⟩ := pS hf
  show (jI 600).b _ _ ((jI 600).L f) some = _
  have e2 : decide ((k : Int) < (C.length : Int)) = false := dF (by omega)
  simp only [jI]
  simp only [zT, e2]
 | succ d ih =>
  intro k f hk hf
  obtain ⟨f, rfl⟩ := pS hf
  have hkl : k < C.length := by omega
  have r1 := ih (k + 1) f (by omega) (by omega)
  show (jI 600).b _ _ ((jI 600).L f) some = _
  generalize (jI 600).L f = Lf at r1 |-
  have e2 : decide ((k : Int) < (C.length : Int)) = true := dT (by omega)
  have h0 : 0 <= (k : Int) := by omega
  have hle := h.le
  have hx := h.xs k hkl
  have v1 := za3 C[k] hx.ne (by have := hx.le; omega)
  have v2 : decide ((C[k].getLast hx.ne).2.1 > now) = false := by rw [decide_eq_false_iff_not]; have := hx.last.atT; simp only [atV] at this; omega
  simp only [jI]
  simp only [zT, e2, h0, if_true, Int.toNat_natCast, zS C k hkl, rd6, v1, v2, zp (show k < 1000000 by omega)]
  exact r1
theorem zjg {T : Int} {m e : Nat} {C : List (List RT7)} {now : Int} (hT : T <= now) (he : e <= 500) (hm : m <= 100) (h : CG T m e C) : zr9 600 (zO C, now) = some true := by
 have hle := h.le
 have h1 : (jI 600).L 600 (now, 0, zO C) = some (.inr ()) := zh4 hT he hm h C.length 0 600 (by omega) (by omega)
 simp only [zr9, FSpec.d, zd2, zwc, h1]
def FC (D : List (List RT7)) (k : Nat) (cs : List AV) : Prop := cs.length = D.length /\ ∀ i (h : i < D.length), ∃ t, cs[i]? = some (AV.list 29 (D[i].map zQ) t) /\ (t = none \/ t = some (TOB + i)) /\ (k <= i -> t = some (TOB + i))
theorem FC.nil : FC [] 0 [] := ⟨rfl, λ i h => by simp at h⟩
theorem FC.to {D : List (List RT7)} {k l : Nat} {cs : List AV} (h : FC D k cs) (hl : k <= l) : FC D l cs :=
 ⟨h.1, λ i hi => by obtain ⟨t, h1, h2, h3⟩ := h.2 i hi; exact ⟨t, h1, h2, λ e => h3 (by omega)⟩⟩
theorem FC.mp {D : List (List RT7)} {k : Nat} {cs : List AV} (h : FC D k cs) (g : AV -> AV) (hg : ∀ i xs t, i < D.length -> t = none \/ t = some (TOB + i) -> g (AV.list 29 xs t) = AV.list 29 xs t) : cs.map g = cs := by
 refine List.ext_getElem (by simp) λ i h1 h2 => ?_
 have hi : i < D.length := by rw [<- h.1]; exact h2
 obtain ⟨t, e1, e2, _⟩ := h.2 i hi
 rw [List.getElem?_eq_getElem h2] at e1
 rw [List.getElem_map, Option.some.inj e1, hg i _ t hi e2]
theorem FC.dF {D : List (List RT7)} {k : Nat} {cs : List AV} (h : FC D k cs) : cs.map datF = cs := h.mp datF λ i xs t _ ht => by
 rcases ht with rfl | rfl
 ·rfl
 ·have : Nat.ble TOB (TOB + i) = true := Nat.ble_eq_true_of_le (by omega)
  simp only [datF, this, cond_true]
theorem FC.dJ {D : List (List RT7)} {k : Nat} {cs : List AV} (h : FC D k cs) : cs.map (datJ 0 D.length) = cs := h.mp _ λ i xs t hi ht => by
 rcases ht with rfl | rfl
 ·rfl
 ·have : Nat.ble (TOB + 0) (TOB + i) = true := Nat.ble_eq_true_of_le (by omega)
  have h2 : Nat.ble (TOB + D.length) (TOB + i) = false := by
   cases hb : Nat.ble (TOB + D.length) (TOB + i) with
   | false => rfl
   | true => have := Nat.le_of_ble_eq_true hb; omega
  simp only [datJ, this, h2, Bool.not_false, Bool.and_self, cond_true]
def zar (D : List (List RT7)) : List AV := D.map λ x => AV.list 29 (x.map zQ) none
theorem zaW (D : List (List RT7)) : (zar D).length = D.length := by simp [zar]
theorem FC.d0 {D : List (List RT7)} {k : Nat} {cs : List AV} (h : FC D k cs) : cs.map dat0 = zar D := by
 refine List.ext_getElem (by simp [zar, h.1]) λ i h1 h2 => ?_
 have hi : i < D.length := by simpa [zar] using h2
 have h3 : i < cs.length := by rw [h.1]; exact hi
 obtain ⟨t, e1, e2, _⟩ := h.2 i hi
 rw [List.getElem?_eq_getElem h3] at e1
 rw [List.getElem_map, Option.some.inj e1]
 simp only [zar, List.getElem_map]
 rcases e2 with rfl | rfl <;> rfl
theorem jV (D : List (List RT7)) : (zar D).map dat0 = zar D := by
 simp only [zar, List.map_map]; rfl
theorem zuq (C D : List (List RT7)) : zar C ++ zar D = zar (C ++ D) := by simp [zar]
theorem zdp : ∀ (D : List (List RT7)), zK (zar D) 1 D.length = zO D
 | [] => rfl
 | x :: D => by
  show _ :: _ = _ :: _
  congr 1
  exact zdp D
theorem zeI (D : List (List RT7)) : zK ((zar D).take (D.length * 1)) 1 D.length = zO D := by
 rw [Nat.mul_one, List.take_of_length_le (by simp [zar]), zdp]
theorem FC.set {D : List (List RT7)} {k : Nat} {cs : List AV} (h : FC D k cs) (hk : k < D.length) (y : List RT7) {q : Nat} (hq : q < TOB) : FC (D.set k y) (k + 1) ((splice cs k [AV.list 29 (y.map zQ) (some q)]).map datF) := by
 refine ⟨by simp [splice, h.1], λ i hi => ?_⟩
 simp at hi
 have h3 : i < cs.length := by rw [h.1]; exact hi
 obtain ⟨t, e1, e2, e3⟩ := h.2 i hi
 rw [List.getElem?_eq_getElem h3] at e1
 by_cases e : k = i
 ·subst e
  refine ⟨none, ?_, .inl rfl, λ e => by omega⟩
  have : Nat.ble TOB q = false := by
   cases hb : Nat.ble TOB q with
   | false => rfl
   | true => have := Nat.le_of_ble_eq_true hb; omega
  show ((cs.set k _).map _)[k]? = _
  rw [List.getElem?_map, List.getElem?_set_self h3, List.getElem_set_self]
  simp only [Option.map, datF, this, cond_false]
 ·refine ⟨t, ?_, e2, λ e' => e3 (by omega)⟩
  show ((cs.set k _).map _)[i]? = _
  rw [List.getElem?_map, List.getElem?_set_ne e, List.getElem?_eq_getElem h3, List.getElem_set_ne e, Option.some.inj e1]
  rcases e2 with rfl | rfl
  ·rfl
  ·have : Nat.ble TOB (TOB + i) = true := Nat.ble_eq_true_of_le (by omega)
   simp only [Option.map, datF, this, cond_true]
theorem FC.snoc {D : List (List RT7)} {cs : List AV} (h : FC D 0 cs) (y : List RT7) : FC (D ++ [y]) 0 ((cs.take (D.length * 1) ++ [AV.list 29 (y.map zQ) (some (TOB + D.length))]).map datF) := by
 rw [Nat.mul_one, <- h.1, List.take_length, List.map_append, h.dF]
 have hb : Nat.ble TOB (TOB + cs.length) = true := Nat.ble_eq_true_of_le (by omega)
 simp only [List.map, datF, hb, cond_true]
 refine ⟨by simp [h.1], λ i hi => ?_⟩
 simp at hi
 by_cases e : i < D.length
 ·obtain ⟨t, e1, e2, e3⟩ := h.2 i e
  refine ⟨t, ?_, e2, e3⟩
  rw [List.getElem?_append_left (by rw [h.1]; exact e), e1, List.getElem_append_left e]
 ·obtain rfl : i = D.length := by omega
  refine ⟨some (TOB + D.length), ?_, .inr rfl, λ _ => rfl⟩
  rw [List.getElem?_append_right (by rw [h.1]; omega), List.getElem_append_right (by omega)]
  simp [h.1]
theorem zo8 {m e : Nat} {C : List (List RT7)} (he : C.length <= 500) (hm : ∀ x ∈ C, x.length <= 1000) (X : List (List AV)) : ∀ (d k f : Nat) (cs : List AV), k + d = C.length -> d < f -> FC (C.take k) 0 cs -> ∃ cs', (ZS 600).L f ((k : Int), zO C, X, k, cs, 0, k) = some (X, C.length, cs', 0, C.length) /\ FC C 0 cs' := by
 intro d
 induction d with
 | zero =>
  intro k f cs hk hf hc
  obtain ⟨f, rfl⟩ := pS hf
  obtain rfl : k = C.length := by omega
  rw [List.take_length] at hc
  refine ⟨cs, ?_, hc⟩
  show (ZS 600).b _ _ ((ZS 600).L f) some = _
  have e2 : decide ((C.length : Int) < (C.length : Int)) = false := dF (by omega)
  simp only [ZS]
  simp only [zT, e2, hc.dF]
 | succ d ih =>
  intro k f cs hk hf hc
  obtain ⟨f, rfl⟩ := pS hf
  have hkl : k < C.length := by omega
  have hn := hc.snoc C[k]
  have hlk : (C.take k).length = k := by simp; omega
  rw [hlk, List.take_append_getElem] at hn
  obtain ⟨cs', r1, r2⟩ := ih (k + 1) f _ (by omega) (by omega) hn
  refine ⟨cs', ?_, r2⟩
  show (ZS 600).b _ _ ((ZS 600).L f) some = _
  generalize (ZS 600).L f = Lf at r1 |-
  have e2 : decide ((k : Int) < (C.length : Int)) = true := dT (by omega)
  have h0 : 0 <= (k : Int) := by omega
  have hx := hm C[k] (List.getElem_mem _)
  have b1 : ((([] : List (List AV)).length + (C[k].map zQ).length) * 288 <= zg) = True := by unfold zg; simp; omega
  have b2 : ((True /\ 0 <= k) /\ k * 1 <= cs.length /\ (k + 1) * 24 <= zg) = True := by rw [hc.1, hlk]; unfold zg; simp; omega
  simp only [ZS]
  simp only [zT, e2, h0, if_true, Int.toNat_natCast, zS C k hkl, zw7, zBK, b1, b2, List.nil_append, zp (show k < 1000000 by omega)]
  exact r1
theorem zwR {C : List (List RT7)} (he : C.length <= 500) (hm : ∀ x ∈ C, x.length <= 1000) : ∃ cs, zgm 600 (zO C) = some (C.length, cs, 0, C.length) /\ FC C 0 cs := by
 obtain ⟨cs, h1, h2⟩ := zo8 (m := 0) (e := 0) he hm [] C.length 0 600 [] (by omega) (by omega) (by simpa using FC.nil)
 refine ⟨cs, ?_, h2⟩
 replace h1 : (ZS 600).L 600 (0, zO C, [], 0, [], 0, 0) = some ([], C.length, cs, 0, C.length) := h1
 simp only [zgm, FSpec.d, zan, znC, h1, h2.dF]
theorem CG.small {T : Int} {m e : Nat} {C : List (List RT7)} (h : CG T m e C) (hm : m <= 1000) : ∀ x ∈ C, x.length <= 1000 := λ x hx => by
 obtain ⟨k, hk, rfl⟩ := List.getElem_of_mem hx
 exact Nat.le_trans (h.xs k hk).le hm
end Go.Proofs.YthdgnfcbehcplaaDoor
end
section
namespace Go.Proofs.YthdgnfcbehcplaaDoor
theorem zeJ : ∀ (D : List (List RT7)) (cs : List AV), cs.map dat0 = zar D -> zK cs 1 D.length = zO D
 | [], _, _ => rfl
 | x :: D, [], h => by cases h
 | x :: D, c :: cs, h => by
  have h' : dat0 c :: cs.map dat0 = AV.list 29 (x.map zQ) none :: zar D := h
  injection h' with h1 h2
  show [dat0 c] :: zK cs 1 D.length = zzu x :: zO D
  rw [h1, zeJ D cs h2]; rfl
theorem FC.sp {D : List (List RT7)} {k : Nat} {cs : List AV} (h : FC D k cs) (i : Nat) (y : List RT7) (q : Nat) : (splice cs i [AV.list 29 (y.map zQ) (some q)]).map dat0 = zar (D.set i y) := by
 show (cs.set i _).map dat0 = _
 rw [List.map_set, h.d0]
 simp only [zar, List.map_set]
 rfl
theorem FC.csp {D : List (List RT7)} {k : Nat} {cs : List AV} (h : FC D k cs) (i : Nat) (y : List RT7) (q : Nat) : zK ((splice cs i [AV.list 29 (y.map zQ) (some q)]).take (D.length * 1)) 1 D.length = zO (D.set i y) := by
 rw [Nat.mul_one, List.take_of_length_le (by rw [Zn, h.1]; exact Nat.le_refl _)]
 have := zeJ (D.set i y) _ (h.sp i y q)
 rw [List.length_set] at this
 exact this
def zug (k t : Int) (b : ByteArray) (to : Int) (e1 last : RT0) : RT7 := (k, t, b, to, if zcn k = true then last else e1)
structure Say (k : Int) (b : ByteArray) (to : Int) (e1 : RT0) : Prop where
 kd : k = 3 \/ k = 4 \/ k = 5 \/ k = 6
 per : Per b
 ev : k = 3 -> EvG e1
 to0 : k ≠ 5 -> to = 0
 to1 : 0 <= to
theorem Say.vg {k : Int} {b : ByteArray} {to : Int} {e1 : RT0} (h : Say k b to e1) {T t : Int} {n i m : Nat} {x : List RT7} (hx : XG T n i m x) (hT : T <= t) (hl : to < n) (hs : k = 5 -> to ≠ i) : VG t n i (zug k t b to e1 (evV (x.getLast hx.ne))) := by
 have hL := hx.last
 obtain ⟨hk, hp, he, h0, h1⟩ := h
 refine ⟨by unfold Kd6 kdV zug; dsimp only; omega, Int.le_trans hL.at0 (Int.le_trans hL.atT hT), Int.le_refl _, λ h => by simp only [zug, kdV] at h; omega, λ _ => hp, h0, λ h => ⟨h1, hl, hs h⟩, ?_⟩
 show EvG (if zcn k = true then _ else _)
 rcases hk with rfl | rfl | rfl | rfl
 ·rw [if_neg (by decide)]; exact he rfl
 ·rw [if_pos (by decide)]; exact hL.ev
 ·rw [if_pos (by decide)]; exact hL.ev
 ·rw [if_pos (by decide)]; exact hL.ev
theorem Say.stp {k : Int} {b : ByteArray} {to : Int} {e1 : RT0} (h : Say k b to e1) {T t : Int} {n i m : Nat} {x : List RT7} (hx : XG T n i m x) (hT : T <= t) (ho : k = 6 -> ZA (kdV (x.getLast hx.ne)) = false) : Stp (x.getLast hx.ne) (zug k t b to e1 (evV (x.getLast hx.ne))) := by
 have hL := hx.last
 obtain ⟨hk, hp, he, h0, h1⟩ := h
 refine ⟨Int.le_trans hL.atT hT, ?_, λ h => ?_⟩
 ·show zBy k _ = true
  rcases hk with rfl | rfl | rfl | rfl
  ·rfl
  ·rfl
  ·rfl
  ·show (!(ZA _)) = true
   rw [ho rfl]; rfl
 ·replace h : zcn k = true := h
  show _ = (if zcn k = true then _ else _)
  rw [if_pos h]
theorem zuh {T t : Int} {m e : Nat} {C : List (List RT7)} (hC : CG T m e C) (he : e <= 500) (hm : m < 100) (hT : T <= t) (ht0 : 0 <= t) (ht : t <= 18014398509481984) {k : Int} {b : ByteArray} {to : Int} {e1 : RT0} (hs : Say k b to e1) (id : Nat) : ∃ d y, zdZ 600 (zO C, (id : Int), (k, t, b, to, e1)) = some (d, y) /\ (y = 0 -> ∃ C', d = zO C' /\ CG t (m + 1) e C') := by
 have hle := hC.le
 have hV := zoW (by omega) he (by omega) hC
 have hP := (zpJ hs.per).1
 have hL := zjg hT he (by omega) hC
 have h2 : zv9 600 ((id : Int), zO C, (k, t, b, to, e1), []) = some (.inr ((id : Int), zO C, (k, t, b, to, e1), [])) := by
  show (zam 600).b _ _ ((zam 600).L 599) some = _
  simp only [zam]
  simp only [hV, hP, Bool.not_true]
  by_cases k3 : k = 3
  ·have c1 : (k == 3) = true := by simp [k3]
   have c2 : zfd 600 [zB (zx (k, t, b, to, e1))] = some true := (hs.ev k3).rv
   simp only [c1, c2, Bool.not_true]
  ·have c1 : (k == 3) = false := by simp [k3]
   simp only [c1]
 simp only [zdZ, FSpec.d, zd0, h2, zT]
 have n1 : decide ((id : Int) < 0) = false := dF (by omega)
 simp only [n1]
 by_cases c1 : id < C.length
 case neg =>
  have n2 : decide ((id : Int) >= (C.length : Int)) = true := dT (by omega)
  simp only [n2]
  exact ⟨_, _, rfl, λ h => by cases h⟩
 have n2 : decide ((id : Int) >= (C.length : Int)) = false := dF (by omega)
 have n3 : decide (to < 0) = false := by rw [decide_eq_false_iff_not]; have := hs.to1; omega
 simp only [n2, n3]
 by_cases c2 : to < C.length
 case neg =>
  have n4 : decide (to >= (C.length : Int)) = true := dT (by omega)
  simp only [n4]
  exact ⟨_, _, rfl, λ h => by cases h⟩
 have n4 : decide (to >= (C.length : Int)) = false := dF (by omega)
 have n5 : decide (t < 0) = false := dF (by omega)
 have n6 : decide (t > 18014398509481984) = false := dF (by omega)
 have h0 : 0 <= (id : Int) := by omega
 have hx := hC.xs id c1
 have hxl := hx.le
 have hla := za3 C[id] hx.ne (by omega)
 simp only [n4, n5, n6, hL, Bool.not_true, h0, if_true, Int.toNat_natCast, zS C id c1, rd6, hla]
 obtain ⟨L, hLd⟩ : ∃ L, L = C[id].getLast hx.ne := ⟨_, rfl⟩
 rw [<- hLd]
 have hop := zg8 600 L
 have h19 : (zfb 600 ((id : Int), zO C, (k, t, b, to, e1), [], L) = some (.inl ((id : Int), 10, zO C, (k, t, b, to, e1), [], L))) \/ ((k = 5 -> to ≠ (id : Int)) /\ (k = 6 -> ZA (kdV L) = false) /\ zfb 600 ((id : Int), zO C, (k, t, b, to, e1), [], L) = some (.inr ((id : Int), zO C, (k, t, b, to, e1), [], L))) := by
  have hu : ∀ y, (jk 600).b ((id : Int), zO C, (k, t, b, to, e1), [], L) _ ((jk 600).L 599) some = y -> zfb 600 ((id : Int), zO C, (k, t, b, to, e1), [], L) = y := λ y h => h
  rcases hs.kd with rfl | rfl | rfl | rfl
  ·exact .inr ⟨λ h => (by cases h), λ h => (by cases h), hu _ (by kernel_rfl)⟩
  ·exact .inr ⟨λ h => (by cases h), λ h => (by cases h), hu _ (by kernel_rfl)⟩
  ·by_cases c3 : to = (id : Int)
   ·refine .inl (hu _ ?_)
    have c4 : (to == (id : Int)) = true := by simp [c3]
    have c5 : ((5 : Int) == 5) = true := by decide
    simp only [jk]
    simp only [c4, c5]
   ·refine .inr ⟨λ _ => c3, λ h => (by cases h), hu _ ?_⟩
    have c4 : (to == (id : Int)) = false := by simp [c3]
    have c5 : ((5 : Int) == 5) = true := by decide
    have c6 : ((5 : Int) == 6) = false := by decide
    simp only [jk]
    simp only [c4, c5, c6]
  ·have c5 : ((6 : Int) == 5) = false := by decide
   have c6 : ((6 : Int) == 6) = true := by decide
   cases ho : ZA (kdV L) with
   | true =>
    refine .inl (hu _ ?_)
    rw [ho] at hop
    simp only [jk]
    simp only [c5, c6, hop]
   | false =>
    refine .inr ⟨λ h => (by cases h), λ _ => rfl, hu _ ?_⟩
    rw [ho] at hop
    simp only [jk]
    simp only [c5, c6, hop]
 rcases h19 with h19 | ⟨g1, g2, h19⟩
 ·simp only [h19]
  exact ⟨_, _, rfl, λ h => by cases h⟩
 have hv := hs.vg hx hT c2 g1
 have hst := hs.stp hx hT (by rw [<- hLd]; exact g2)
 rw [<- hLd] at hv hst
 have hn := hC.set c1 hT hv (by rw [<- hLd]; exact hst)
 have m1 : (((C[id].map zQ).length : Int) == 100) = false := by simp; omega
 have hkp := zpu 600 k
 obtain ⟨cs, q1, q2⟩ := zwR (C := C) (by omega) (hC.small (by omega))
 obtain ⟨tk, q3, _, q4⟩ := q2.2 id c1
 rw [q4 (Nat.zero_le _)] at q3
 have hI : (id : Int) < (C.length : Int) := by omega
 have b1 : ((C[id].map zQ).length + [zQ (zug k t b to e1 (evV L))].length) * 288 <= zg := by unfold zg; simp; omega
 have b2 : id + 1 <= cs.length := by rw [q2.1]; exact c1
 have b3 : ∀ q, C.length * 1 <= (splice cs id q).length := λ q => by rw [Zn, q2.1]; omega
 have hr : (C[id].map zQ) ++ [zQ (zug k t b to e1 (evV L))] = (C[id] ++ [zug k t b to e1 (evV L)]).map zQ := by simp
 have hch := q2.csp id (C[id] ++ [zug k t b to e1 (evV L)]) 7872
 simp only [h19, h0, if_true, Int.toNat_natCast, zS C id c1, zw7, zBK, m1, hkp, q1]
 unfold zug at b1 hr hch hn
 rw [Nat.mul_one] at hch
 have b3' : ∀ q, C.length <= (splice cs id q).length := λ q => by have := b3 q; omega
 cases hkk : zcn k with
 | true =>
  simp only [hkk, if_true] at b1 hr hch hn
  simp only [hI, h0, q2.dJ, Nat.zero_add, Nat.mul_one, Nat.add_zero, q3, c1, and_self, if_true, Nat.zero_le, b2]
  rw [if_pos b1, if_pos (b3' _)]
  refine ⟨_, _, rfl, λ _ => ⟨_, ?_, hn⟩⟩
  rw [<- hch, <- hr]
 | false =>
  simp only [hkk, Bool.false_eq_true, if_false] at b1 hr hch hn
  simp only [hI, h0, q2.dJ, Nat.zero_add, Nat.mul_one, Nat.add_zero, q3, c1, and_self, if_true, Nat.zero_le, b2]
  rw [if_pos b1, if_pos (b3' _)]
  refine ⟨_, _, rfl, λ _ => ⟨_, ?_, hn⟩⟩
  rw [<- hch, <- hr]
theorem zvb {T t : Int} {m e : Nat} {C : List (List RT7)} (hC : CG T m e C) (he : e <= 500) (hm : m < 100) (hT : T <= t) (ht0 : 0 <= t) (ht : t <= 18014398509481984) {b : ByteArray} {x : RT0} (hb : Per b) (hx : EvG x) (id : Nat) : ∃ d y, zxi 600 (zO C, (id : Int), b, x, t) = some (d, y) /\ (y = 0 -> ∃ C', d = zO C' /\ CG t (m + 1) e C') := by
 obtain ⟨d, y, h1, h2⟩ := zuh hC he hm hT ht0 ht (k := 3) (b := b) (to := 0) (e1 := x) ⟨.inl rfl, hb, λ _ => hx, λ _ => rfl, Int.le_refl _⟩ id
 refine ⟨d, y, ?_, h2⟩
 show (match zdZ 600 (zO C, (id : Int), (3, t, b, 0, x)) with | some y1 => some y1 | none => none) = _
 rw [h1]
@[reducible] def zE : RT0 := ((⟨#[]⟩ : ByteArray), (⟨#[]⟩ : ByteArray), (⟨#[]⟩ : ByteArray), (⟨#[]⟩ : ByteArray), 0, 0, 0, 0, 0, ([] : List (List AV)), 0, 0, 0, 0, 0, 0, 0, 0, 0, 0, 0, 0, 0, 0, 0, ())
theorem zuA {T t : Int} {m e : Nat} {C : List (List RT7)} (hC : CG T m e C) (he : e <= 500) (hm : m < 100) (hT : T <= t) (ht0 : 0 <= t) (ht : t <= 18014398509481984) {b : ByteArray} (hb : Per b) (id : Nat) : ∃ d y, zxl 600 (zO C, (id : Int), b, t) = some (d, y) /\ (y = 0 -> ∃ C', d = zO C' /\ CG t (m + 1) e C') := by
 obtain ⟨d, y, h1, h2⟩ := zuh hC he hm hT ht0 ht (k := 4) (b := b) (to := 0) (e1 := zE) ⟨.inr (.inl rfl), hb, λ h => (by cases h), λ _ => rfl, Int.le_refl _⟩ id
 refine ⟨d, y, ?_, h2⟩
 show (match zdZ 600 (zO C, (id : Int), (4, t, b, 0, zE)) with | some y1 => some y1 | none => none) = _
 rw [h1]
theorem zyJ {T t : Int} {m e : Nat} {C : List (List RT7)} (hC : CG T m e C) (he : e <= 500) (hm : m < 100) (hT : T <= t) (ht0 : 0 <= t) (ht : t <= 18014398509481984) {b : ByteArray} (hb : Per b) (id to : Nat) : ∃ d y, zxn 600 (zO C, (id : Int), (to : Int), b, t) = some (d, y) /\ (y = 0 -> ∃ C', d = zO C' /\ CG t (m + 1) e C') := by
 obtain ⟨d, y, h1, h2⟩ := zuh hC he hm hT ht0 ht (k := 5) (b := b) (to := (to : Int)) (e1 := zE) ⟨.inr (.inr (.inl rfl)), hb, λ h => (by cases h), λ h => absurd rfl h, by omega⟩ id
 refine ⟨d, y, ?_, h2⟩
 show (match zdZ 600 (zO C, (id : Int), (5, t, b, (to : Int), zE)) with | some y1 => some y1 | none => none) = _
 rw [h1]
theorem zpT {T t : Int} {m e : Nat} {C : List (List RT7)} (hC : CG T m e C) (he : e <= 500) (hm : m < 100) (hT : T <= t) (ht0 : 0 <= t) (ht : t <= 18014398509481984) {b : ByteArray} (hb : Per b) (id : Nat) : ∃ d y, zxp 600 (zO C, (id : Int), b, t) = some (d, y) /\ (y = 0 -> ∃ C', d = zO C' /\ CG t (m + 1) e C') := by
 obtain ⟨d, y, h1, h2⟩ := zuh hC he hm hT ht0 ht (k := 6) (b := b) (to := 0) (e1 := zE) ⟨.inr (.inr (.inr rfl)), hb, λ h => (by cases h), λ _ => rfl, Int.le_refl _⟩ id
 refine ⟨d, y, ?_, h2⟩
 show (match zdZ 600 (zO C, (id : Int), (6, t, b, 0, zE)) with | some y1 => some y1 | none => none) = _
 rw [h1]
end Go.Proofs.YthdgnfcbehcplaaDoor
end
section
namespace Go.Proofs.YthdgnfcbehcplaaDoor
def ixD (A : List RT0) (nm : RT1) : Nat -> Int -> Prop := λ k y => (y = -1 /\ ∀ j (h : j < A.length), k <= j -> nmE A[j] ≠ nm) \/ ∃ j : Nat, y = (j : Int) /\ ∃ h : j < A.length, k <= j /\ nmE A[j] = nm /\ ∀ i (hi : i < A.length), k <= i -> i < j -> nmE A[i] ≠ nm
theorem zg0 (A : List RT0) (nm : RT1) (hA : A.length <= 500) : ∀ (d k f : Nat), k + d = A.length -> d < f -> ∃ y, (Z4 600).L f (A.map zB, (k : Int), nm) = some y /\ ∃ z, ixD A nm k z /\ ((z = -1 /\ y = .inr ()) \/ (0 <= z /\ y = .inl z)) := by
 intro d
 induction d with
 | zero =>
  intro k f hk hf
  obtain ⟨f, rfl⟩ := pS hf
  refine ⟨_, ?_, -1, .inl ⟨rfl, λ j h h' => by omega⟩, .inl ⟨rfl, rfl⟩⟩
  show (Z4 600).b _ _ ((Z4 600).L f) some = _
  have e2 : decide ((k : Int) < (A.length : Int)) = false := dF (by omega)
  simp only [Z4]
  simp only [List.length_map, e2]
 | succ d ih =>
  intro k f hk hf
  obtain ⟨f, rfl⟩ := pS hf
  have hkl : k < A.length := by omega
  have e2 : decide ((k : Int) < (A.length : Int)) = true := dT (by omega)
  have h0 : 0 <= (k : Int) := by omega
  by_cases hc : nmE A[k] = nm
  ·refine ⟨_, ?_, (k : Int), .inr ⟨k, rfl, hkl, Nat.le_refl _, hc, λ i hi h1 h2 => by omega⟩, .inr ⟨h0, rfl⟩⟩
   show (Z4 600).b _ _ ((Z4 600).L f) some = _
   have ee := (congrArg (eqP (nmE A[k])) hc).symm.trans (JN (nmE A[k]))
   simp only [eqP] at ee
   simp only [Z4]
   simp only [List.length_map, e2, h0, if_true, Int.toNat_natCast, zcm A k hkl, nm0, ee]
  ·obtain ⟨y, r1, z, r2, r3⟩ := ih (k + 1) f (by omega) (by omega)
   refine ⟨y, ?_, z, ?_, r3⟩
   ·show (Z4 600).b _ _ ((Z4 600).L f) some = _
    generalize (Z4 600).L f = Lf at r1 |-
    have ee := zaY hc
    simp only [eqP] at ee
    simp only [Z4]
    simp only [List.length_map, e2, h0, if_true, Int.toNat_natCast, zcm A k hkl, nm0, ee, zp (show k < 1000000 by omega)]
    exact r1
   ·rcases r2 with ⟨a, b⟩ | ⟨j, a, b, c, g, i⟩
    ·refine .inl ⟨a, λ j h h' => ?_⟩
     by_cases e : k = j
     ·subst e; exact hc
     ·exact b j h (by omega)
    ·refine .inr ⟨j, a, b, by omega, g, λ l hl h1 h2 => ?_⟩
     by_cases e : k = l
     ·subst e; exact hc
     ·exact i l hl (by omega) h2
theorem zpq (A : List RT0) (nm : RT1) (hA : A.length <= 500) : ∃ z, zjR 600 (A.map zB, nm) = some z /\ ixD A nm 0 z := by
 obtain ⟨y, h1, z, h2, h3⟩ := zg0 A nm hA A.length 0 600 (by omega) (by omega)
 replace h1 : (Z4 600).L 600 (A.map zB, 0, nm) = some y := h1
 refine ⟨z, ?_, h2⟩
 simp only [zjR, FSpec.d, zjS, zvD, h1]
 rcases h3 with ⟨rfl, rfl⟩ | ⟨_, rfl⟩ <;> rfl
theorem ixD.rg {A : List RT0} {nm : RT1} {k : Nat} {z : Int} (h : ixD A nm k z) : -1 <= z /\ z < A.length := by
 rcases h with ⟨rfl, _⟩ | ⟨j, rfl, h, _⟩ <;> omega
def ic (L : List Int) : List AV := L.map λ x => AV.v (.int .i64 x)
theorem zeO (L : List Int) : (ic L).length = L.length := by simp [ic]
theorem JO (L : List Int) (k : Nat) (h : k < L.length) : (ic L)[k]? = some (AV.v (.int .i64 L[k])) := by simp [ic, h]
theorem zF (L : List Int) : (ic L).map dat0 = ic L := by simp only [ic, List.map_map]; rfl
theorem zpp (L : List Int) (k : Nat) (y : Int) : splice (ic L) k [AV.v (.int .i64 y)] = ic (L.set k y) := by
 show (ic L).set k _ = _
 simp [ic, List.map_set]
theorem zBE (L : List Int) (x : Int) : ic L ++ [AV.v (.int .i64 x)] = ic (L ++ [x]) := by simp [ic]
theorem zyD (L : List Int) (x : Int) (hL : L.length <= 500) : ∀ (d k f : Nat), k + d = L.length -> d < f -> ∃ y, (Zx 600).L f (L.length, x, (k : Int), ic L) = some y /\ ((x ∈ L.drop k /\ y = .inl (true, ic L)) \/ (x ∉ L.drop k /\ y = .inr (ic L))) := by
 intro d
 induction d with
 | zero =>
  intro k f hk hf
  obtain ⟨f, rfl⟩ := pS hf
  refine ⟨_, ?_, .inr ⟨by rw [List.drop_eq_nil_of_le (by omega)]; simp, rfl⟩⟩
  show (Zx 600).b _ _ ((Zx 600).L f) some = _
  have e2 : decide ((k : Int) < ((L.length : Nat) : Int)) = false := dF (by omega)
  simp only [Zx]
  simp only [e2, zF]
 | succ d ih =>
  intro k f hk hf
  obtain ⟨f, rfl⟩ := pS hf
  have hkl : k < L.length := by omega
  have e2 : decide ((k : Int) < ((L.length : Nat) : Int)) = true := dT (by omega)
  have h0 : 0 <= (k : Int) := by omega
  have h1 : (k : Int) < (L.length : Int) := by omega
  have hd := List.drop_eq_getElem_cons hkl
  by_cases hc : L[k] = x
  ·refine ⟨_, ?_, .inl ⟨by rw [hd, hc]; exact List.mem_cons_self, rfl⟩⟩
   show (Zx 600).b _ _ ((Zx 600).L f) some = _
   have e3 : (L[k] == x) = true := by simp [hc]
   simp only [Zx]
   simp only [e2, h0, h1, decide_true, and_self, if_true, Nat.zero_add, Nat.mul_one, Int.toNat_natCast, JO L k hkl, e3, zF]
  ·obtain ⟨y, r1, r2⟩ := ih (k + 1) f (by omega) (by omega)
   refine ⟨y, ?_, ?_⟩
   ·show (Zx 600).b _ _ ((Zx 600).L f) some = _
    generalize (Zx 600).L f = Lf at r1 |-
    have e3 : (L[k] == x) = false := by simp [hc]
    simp only [Zx]
    simp only [e2, h0, h1, decide_true, and_self, if_true, Nat.zero_add, Nat.mul_one, Int.toNat_natCast, JO L k hkl, e3, zF, zp (show k < 1000000 by omega)]
    exact r1
   ·rw [hd, List.mem_cons]
    rcases r2 with ⟨a, b⟩ | ⟨a, b⟩
    ·exact .inl ⟨.inr a, b⟩
    ·exact .inr ⟨λ h => h.elim (λ e => hc e.symm) a, b⟩
theorem zEj (L : List Int) (x : Int) (hL : L.length <= 500) : ∃ b, zgn 600 (L.length, x, ic L) = some (b, ic L) /\ (b = true ↔ x ∈ L) := by
 obtain ⟨y, h1, h2⟩ := zyD L x hL L.length 0 600 (by omega) (by omega)
 replace h1 : (Zx 600).L 600 (L.length, x, 0, ic L) = some y := h1
 rw [List.drop_zero] at h2
 simp only [zgn, FSpec.d, zes, znL, zF, h1]
 rcases h2 with ⟨a, rfl⟩ | ⟨a, rfl⟩
 ·exact ⟨true, by simp only [zF], by simp [a]⟩
 ·exact ⟨false, by simp only [zF], by simp [a]⟩
def Rg (n : Nat) (L : List Int) : Prop := ∀ x ∈ L, -1 <= x /\ x < n
theorem Rg.snoc {n : Nat} {L : List Int} {x : Int} (h : Rg n L) (hx : -1 <= x /\ x < n) : Rg n (L ++ [x]) := λ y hy => by
 rcases List.mem_append.1 hy with h1 | h1
 ·exact h y h1
 ·rw [List.mem_singleton.1 h1]; exact hx
theorem Rg.set {n : Nat} {L : List Int} {x : Int} (h : Rg n L) (k : Nat) (hx : -1 <= x /\ x < n) : Rg n (L.set k x) := λ y hy => by
 rcases List.mem_or_eq_of_mem_set hy with h1 | h1
 ·exact h y h1
 ·rw [h1]; exact hx
theorem zpi {T : Int} {m e : Nat} {C : List (List RT7)} (hC : CG T m e C) (he : e <= 500) (hm : m <= 1000) (A : List RT0) (hA : A.length <= 500) : ∀ (d k f : Nat) (L : List Int), k + d = C.length -> d < f -> L.length = k -> Rg A.length L -> ∃ L' : List Int, (Zo 600).L f (k, A.map zB, (k : Int), zO C, ic L) = some (C.length, A.map zB, zO C, ic L') /\ L'.length = C.length /\ Rg A.length L' := by
 intro d
 induction d with
 | zero =>
  intro k f L hk hf hl hr
  obtain ⟨f, rfl⟩ := pS hf
  obtain rfl : k = C.length := by omega
  refine ⟨L, ?_, hl, hr⟩
  show (Zo 600).b _ _ ((Zo 600).L f) some = _
  have e2 : decide ((C.length : Int) < (C.length : Int)) = false := dF (by omega)
  simp only [Zo]
  simp only [zT, e2, zF]
 | succ d ih =>
  intro k f L hk hf hl hr
  obtain ⟨f, rfl⟩ := pS hf
  have hkl : k < C.length := by omega
  have hle := hC.le
  have e2 : decide ((k : Int) < (C.length : Int)) = true := dT (by omega)
  have h0 : 0 <= (k : Int) := by omega
  have hx := hC.xs k hkl
  have hla := za3 C[k] hx.ne (by have := hx.le; omega)
  obtain ⟨z, i1, i2⟩ := zpq A (nmE (evV (C[k].getLast hx.ne))) hA
  replace i1 : zjR 600 (A.map zB, zfp (C[k].getLast hx.ne)) = some z := i1
  obtain ⟨b, j1, j2⟩ := zEj L z (by omega)
  rw [hl] at j1
  have hst : ∀ x : Int, -1 <= x /\ x < A.length -> ∃ L' : List Int, (Zo 600).L f (k + 1, A.map zB, ((k + 1 : Nat) : Int), zO C, ic (L ++ [x])) = some (C.length, A.map zB, zO C, ic L') /\ L'.length = C.length /\ Rg A.length L' := λ x hx => ih (k + 1) f (L ++ [x]) (by omega) (by omega) (by simp [hl]) (hr.snoc hx)
  have hlen : (ic L).length = k := by rw [zeO, hl]
  have b1 : (k * 1 <= k /\ (k + 1) * 8 <= zg) = True := by unfold zg; simp; omega
  have tk : ∀ x : Int, (ic L).take (k * 1) ++ [[AV.v (.int .i64 x)]].flatten = ic (L ++ [x]) := λ x => by
   rw [Nat.mul_one, <- hlen, List.take_length]
   exact zBE L x
  cases b with
  | true =>
   obtain ⟨L', r1, r2⟩ := hst (-1) (by omega)
   refine ⟨L', ?_, r2⟩
   show (Zo 600).b _ _ ((Zo 600).L f) some = _
   generalize (Zo 600).L f = Lf at r1 |-
   simp only [Zo]
   simp only [zT, e2, h0, if_true, Int.toNat_natCast, zS C k hkl, rd6, hla, i1, zF, j1, hlen, List.length_cons, List.length_nil, Nat.zero_add, b1, tk, zp (show k < 1000000 by omega)]
   exact r1
  | false =>
   obtain ⟨L', r1, r2⟩ := hst z i2.rg
   refine ⟨L', ?_, r2⟩
   show (Zo 600).b _ _ ((Zo 600).L f) some = _
   generalize (Zo 600).L f = Lf at r1 |-
   simp only [Zo]
   simp only [zT, e2, h0, if_true, Int.toNat_natCast, zS C k hkl, rd6, hla, i1, zF, j1, hlen, List.length_cons, List.length_nil, Nat.zero_add, b1, tk, zp (show k < 1000000 by omega)]
   exact r1
theorem zld {T : Int} {m e : Nat} {C : List (List RT7)} (hC : CG T m e C) (he : e <= 500) (hm : m <= 1000) (A : List RT0) (hA : A.length <= 500) (hpk : ∀ a ∈ A, zaq a) (i : Nat) (hi : i < C.length) : ∀ (d k f : Nat) (L : List Int), k + d = A.length -> d < f -> L.length = C.length -> Rg A.length L -> ∃ L' : List Int, (zP 600).L f (A.map zB, C.length, (i : Int), (k : Int), zO C, ic L) = some (A.map zB, C.length, (i : Int), zO C, ic L') /\ L'.length = C.length /\ Rg A.length L' := by
 intro d
 induction d with
 | zero =>
  intro k f L hk hf hl hr
  obtain ⟨f, rfl⟩ := pS hf
  refine ⟨L, ?_, hl, hr⟩
  show (zP 600).b _ _ ((zP 600).L f) some = _
  have e2 : decide ((k : Int) < (A.length : Int)) = false := dF (by omega)
  simp only [zP]
  simp only [List.length_map, e2, zF]
 | succ d ih =>
  intro k f L hk hf hl hr
  obtain ⟨f, rfl⟩ := pS hf
  have hkl : k < A.length := by omega
  have hle := hC.le
  have e2 : decide ((k : Int) < (A.length : Int)) = true := dT (by omega)
  have h0 : 0 <= (k : Int) := by omega
  have hi0 : 0 <= (i : Int) := by omega
  have hi1 : (i : Int) < (C.length : Int) := by omega
  have hiL : i < L.length := by omega
  have hx := hC.xs i hi
  have hla := za3 C[i] hx.ne (by have := hx.le; omega)
  by_cases hneg : L[i] < 0
  case neg =>
   refine ⟨L, ?_, hl, hr⟩
   show (zP 600).b _ _ ((zP 600).L f) some = _
   have e3 : decide (L[i] < 0) = false := dF (by omega)
   simp only [zP]
   simp only [List.length_map, e2, hi0, hi1, and_self, if_true, Nat.zero_add, Nat.mul_one, Int.toNat_natCast, JO L i hiL, e3, zF]
  have e3 : decide (L[i] < 0) = true := dT (by omega)
  obtain ⟨b, j1, j2⟩ := zEj L (k : Int) (by omega)
  rw [hl] at j1
  cases b with
  | true =>
   obtain ⟨L', r1, r2⟩ := ih (k + 1) f L (by omega) (by omega) hl hr
   refine ⟨L', ?_, r2⟩
   show (zP 600).b _ _ ((zP 600).L f) some = _
   generalize (zP 600).L f = Lf at r1 |-
   simp only [zP]
   simp only [List.length_map, e2, hi0, hi1, and_self, if_true, Nat.zero_add, Nat.mul_one, Int.toNat_natCast, JO L i hiL, e3, zF, j1, Bool.not_true, zp (show k < 1000000 by omega)]
   exact r1
  | false =>
   obtain ⟨P, hP1, hP⟩ := hx.last.ev.pk
   obtain ⟨Q, hQ1, hQ⟩ := hpk A[k] (List.getElem_mem _)
   obtain ⟨b2, q1, q2⟩ := zEc P Q (by omega) (by omega)
   have q3 : ztj 600 ((C[i].getLast hx.ne).2.2.2.2.2.2.2.2.2.2.2.2.2.1, Q.map zy) = some b2 := by
    rw [<- hP] at q1; exact q1
   cases b2 with
   | false =>
    obtain ⟨L', r1, r2⟩ := ih (k + 1) f L (by omega) (by omega) hl hr
    refine ⟨L', ?_, r2⟩
    show (zP 600).b _ _ ((zP 600).L f) some = _
    generalize (zP 600).L f = Lf at r1 |-
    simp only [zP]
    simp only [List.length_map, e2, h0, hi0, hi1, and_self, if_true, Nat.zero_add, Nat.mul_one, Int.toNat_natCast, JO L i hiL, e3, zF, j1, Bool.not_false, zS C i hi, rd6, hla, zcm A k hkl, pk0, zCi, hQ, q3, zp (show k < 1000000 by omega)]
    exact r1
   | true =>
    obtain ⟨L', r1, r2⟩ := ih (k + 1) f (L.set i (k : Int)) (by omega) (by omega) (by simpa using hl) (hr.set i (by omega))
    refine ⟨L', ?_, r2⟩
    show (zP 600).b _ _ ((zP 600).L f) some = _
    generalize (zP 600).L f = Lf at r1 |-
    have b1 : i + 1 <= (ic L).length := by rw [zeO]; omega
    simp only [zP]
    simp only [List.length_map, e2, h0, hi0, hi1, and_self, if_true, Nat.zero_add, Nat.mul_one, Int.toNat_natCast, JO L i hiL, e3, zF, j1, Bool.not_false, zS C i hi, rd6, hla, zcm A k hkl, pk0, zCi, hQ, q3, b1, zpp, zp (show k < 1000000 by omega)]
    exact r1
theorem zlc {T : Int} {m e : Nat} {C : List (List RT7)} (hC : CG T m e C) (he : e <= 500) (hm : m <= 1000) (A : List RT0) (hA : A.length <= 500) (hpk : ∀ a ∈ A, zaq a) : ∀ (d k f : Nat) (L : List Int), k + d = C.length -> d < f -> L.length = C.length -> Rg A.length L -> ∃ L' : List Int, (Zr 600).L f (A.map zB, C.length, (k : Int), zO C, ic L) = some (C.length, ic L') /\ L'.length = C.length /\ Rg A.length L' := by
 intro d
 induction d with
 | zero =>
  intro k f L hk hf hl hr
  obtain ⟨f, rfl⟩ := pS hf
  refine ⟨L, ?_, hl, hr⟩
  show (Zr 600).b _ _ ((Zr 600).L f) some = _
  have e2 : decide ((k : Int) < (C.length : Int)) = false := dF (by omega)
  simp only [Zr]
  simp only [zT, e2, zF]
 | succ d ih =>
  intro k f L hk hf hl hr
  obtain ⟨f, rfl⟩ := pS hf
  have hkl : k < C.length := by omega
  have hle := hC.le
  have e2 : decide ((k : Int) < (C.length : Int)) = true := dT (by omega)
  obtain ⟨L1, a1, a2, a3⟩ := zld hC he hm A hA hpk k hkl A.length 0 600 L (by omega) (by omega) hl hr
  replace a1 : (zP 600).L 600 (A.map zB, C.length, (k : Int), 0, zO C, ic L) = _ := a1
  obtain ⟨L', r1, r2⟩ := ih (k + 1) f L1 (by omega) (by omega) a2 a3
  refine ⟨L', ?_, r2⟩
  show (Zr 600).b _ _ ((Zr 600).L f) some = _
  generalize (Zr 600).L f = Lf at r1 |-
  simp only [Zr]
  simp only [zT, e2, zF, ziG, a1, zp (show k < 1000000 by omega)]
  exact r1
theorem zuG {T : Int} {m e : Nat} {C : List (List RT7)} (hC : CG T m e C) (he : e <= 500) (hm : m <= 1000) (A : List RT0) (hA : A.length <= 500) (hpk : ∀ a ∈ A, zaq a) : ∃ L : List Int, znG 600 (zO C, A.map zB) = some (C.length, ic L) /\ L.length = C.length /\ Rg A.length L := by
 have hle := hC.le
 obtain ⟨L1, a1, a2, a3⟩ := zpi hC he hm A hA C.length 0 600 [] (by omega) (by omega) rfl (λ x h => by cases h)
 replace a1 : (Zo 600).L 600 (0, A.map zB, 0, zO C, []) = _ := a1
 obtain ⟨L2, b1, b2, b3⟩ := zlc hC he hm A hA hpk C.length 0 600 L1 (by omega) (by omega) a2 a3
 replace b1 : (Zr 600).L 600 (A.map zB, C.length, 0, zO C, ic L1) = _ := b1
 refine ⟨L2, ?_, b2, b3⟩
 simp only [znG, FSpec.d, zao, znH, ziF, a1, zF, b1]
end Go.Proofs.YthdgnfcbehcplaaDoor
end
section
namespace Go.Proofs.YthdgnfcbehcplaaDoor
theorem CG.add {T : Int} {m e : Nat} {C : List (List RT7)} (h : CG T m e C) (hm : 1 <= m) {v : RT7} (hv : VG T (C.length + 1) C.length v) (h1 : kdV v = 1) : CG T m (e + 1) (C ++ [[v]]) := by
 refine ⟨λ k hk => ?_, by have := h.le; simp; omega⟩
 simp at hk
 rw [List.length_append, List.length_singleton]
 by_cases hl : k < C.length
 ·rw [List.getElem_append_left hl]
  exact (h.xs k hl).mono (Int.le_refl _) (by omega) (Nat.le_refl _)
 ·obtain rfl : k = C.length := by omega
  rw [List.getElem_append_right (by omega)]
  simpa using XG.one hm hv h1
def zaG (t : Int) (e : RT0) : RT7 := (1, t, nob, 0, e)
def zqa (t : Int) (e : RT0) : RT7 := (2, t, nob, 0, e)
theorem zo2 {T t : Int} {n i : Nat} {e : RT0} (h0 : 0 <= t) (he : EvG e) : VG t n i (zaG t e) :=
 ⟨.inl rfl, h0, Int.le_refl _, λ _ => rfl, λ h => absurd (.inl rfl) h, λ _ => rfl, λ h => (by cases h), he⟩
theorem zCb {T t : Int} {n i : Nat} {e : RT0} (h0 : 0 <= t) (he : EvG e) : VG t n i (zqa t e) :=
 ⟨.inr (.inl rfl), h0, Int.le_refl _, λ _ => rfl, λ h => absurd (.inr rfl) h, λ _ => rfl, λ h => (by cases h), he⟩
theorem zBk {t : Int} {u : RT7} {e : RT0} (ht : atV u <= t) (ho : ZA (kdV u) = true) : Stp u (zaG t e) := ⟨ht, ho, λ h => by cases h⟩
theorem zCc {t : Int} {u : RT7} (ht : atV u <= t) (ho : ZA (kdV u) = true) (h2 : kdV u ≠ 2) : Stp u (zqa t (evV u)) := ⟨ht, by
 show (kdV u == 1 || kdV u == 6) = true
 unfold ZA at ho
 have : (kdV u == 2) = false := by simpa using h2
 rw [this, Bool.false_or] at ho
 exact ho, λ _ => rfl⟩
open Classical in
noncomputable def Jh (A : List RT0) (t : Int) (u : RT7) (k : Int) : Option RT7 :=
 if ZA (kdV u) = true then
  if h : 0 <= k /\ k < A.length then
   if jN (kdV u) = true /\ evV u = A[k.toNat] then none else some (zaG t A[k.toNat])
  else if kdV u = 2 then none else some (zqa t (evV u))
 else none
theorem zw2 {A : List RT0} (hA : ∀ a ∈ A, EvG a) {T t : Int} {n i m : Nat} {x : List RT7} (hx : XG T n i m x) (hT : T <= t) {k : Int} {v : RT7} (h : Jh A t (x.getLast hx.ne) k = some v) : VG t n i v /\ Stp (x.getLast hx.ne) v := by
 have hL := hx.last
 have h0 : 0 <= t := Int.le_trans hL.at0 (Int.le_trans hL.atT hT)
 have h1 : atV (x.getLast hx.ne) <= t := Int.le_trans hL.atT hT
 unfold Jh at h
 split at h
 ·rename_i ho
  split at h
  ·split at h
   ·cases h
   ·obtain rfl := Option.some.inj h
    exact ⟨zo2 (T := T) h0 (hA _ (List.getElem_mem _)), zBk h1 ho⟩
  ·split at h
   ·cases h
   ·rename_i h2
    obtain rfl := Option.some.inj h
    exact ⟨zCb (T := T) h0 hL.ev, zCc h1 ho h2⟩
 ·cases h
theorem zy5 (A : List RT0) (hA : ∀ a ∈ A, EvG a) (t : Int) (u : RT7) (hu : EvG (evV u)) (k i : Int) (hk : -1 <= k /\ k < A.length) (ch : List (List AV)) (n N : Nat) (X Y : List (List AV)) (cs ci : List AV) (hcs : cs.map datF = cs) (hci : ci.map dat0 = ci) (j M : Nat) :
  ∃ s v, zcJ 600 (ch, A.map zB, t, n, i, (kdV u == 2), k, decide (k >= 0), X, Y, N, u, zqa t (evV u), cs, ci, j, M) = some (ch, A.map zB, t, n, i, s, X, Y, N, u, v, cs, ci, j, M) /\ (ZA (kdV u) = true -> Jh A t u k = if s = true then none else some v) := by
 have hu' : ∀ y, (jw 600).b (ch, A.map zB, t, n, i, (kdV u == 2), k, decide (k >= 0), X, Y, N, u, zqa t (evV u), cs, ci, j, M) _ ((jw 600).L 599) some = y -> zcJ 600 (ch, A.map zB, t, n, i, (kdV u == 2), k, decide (k >= 0), X, Y, N, u, zqa t (evV u), cs, ci, j, M) = y := λ y h => h
 by_cases hk0 : 0 <= k
 ·obtain ⟨j', rfl⟩ : ∃ j' : Nat, k = (j' : Int) := ⟨k.toNat, by omega⟩
  have hj : j' < A.length := by omega
  have e1 : decide ((j' : Int) >= 0) = true := dT (by omega)
  have hs := zpZ 600 u
  have hnv : ∀ s v, (s = true ↔ (jN (kdV u) = true /\ evV u = A[j'])) -> v = zaG t A[j'] -> ZA (kdV u) = true -> Jh A t u (j' : Int) = if s = true then none else some v := λ s v h1 h2 ho => by
   unfold Jh
   rw [if_pos ho, dif_pos ⟨hk0, by omega⟩]
   simp only [Int.toNat_natCast, h2]
   by_cases c : s = true
   ·rw [if_pos c, if_pos (h1.1 c)]
   ·rw [if_neg c, if_neg (λ h => c (h1.2 h))]
  cases hsh : jN (kdV u) with
  | false =>
   rw [hsh] at hs
   refine ⟨false, zaG t A[j'], hu' _ ?_, hnv _ _ (by simp [hsh]) rfl⟩
   simp only [jw]
   simp only [e1, hk0, if_true, Int.toNat_natCast, zcm A j' hj, ZD, hs, hcs, hci]
   rfl
  | true =>
   rw [hsh] at hs
   obtain ⟨b, q1, q2⟩ := zif (evV u) A[j'] hu.pk (hA _ (List.getElem_mem _)).pk
   replace q1 : zdX 600 (zx u, A[j']) = some b := q1
   refine ⟨b, zaG t A[j'], hu' _ ?_, hnv _ _ (by rw [q2]; simp [hsh]) rfl⟩
   simp only [jw]
   simp only [e1, hk0, if_true, Int.toNat_natCast, zcm A j' hj, ZD, hs, hcs, hci, q1]
   rfl
 ·have e1 : decide (k >= 0) = false := dF (by omega)
  refine ⟨(kdV u == 2), zqa t (evV u), hu' _ ?_, ?_⟩
  ·simp only [jw]
   simp only [e1, hcs, hci]
  ·intro ho
   unfold Jh
   rw [if_pos ho, dif_neg (λ h => hk0 h.1)]
   by_cases c : kdV u = 2
   ·rw [if_pos c, if_pos (by simpa using c)]
   ·rw [if_neg c, if_neg (by simpa using c)]
theorem zll {T t : Int} {m e : Nat} {C : List (List RT7)} (hC : CG T m e C) (he : e <= 500) (hm : m < 100) (hT : T <= t) (A : List RT0) (hA : ∀ a ∈ A, EvG a) (L : List Int) (hL : L.length = C.length) (hr : Rg A.length L) (X : List (List AV)) : ∀ (d k f : Nat) (ch : List (List AV)) (D : List (List RT7)) (cs : List AV) (j : Nat), k + d = C.length -> d < f -> j <= k -> ch.length <= k -> D.length = C.length -> (∀ i (h : i < D.length) (h' : i < C.length), k <= i -> D[i] = C[i]) -> FC D j cs -> CG t (m + 1) e D ->
  ∃ (ch' : List (List AV)) (D' : List (List RT7)) (cs' : List AV) (j' : Nat), (Zs 600).L f (ch, A.map zB, t, C.length, (k : Int), zO C, X, C.length, cs, ic L, j, C.length) = some (.inr (ch', A.map zB, t, C.length, X, C.length, cs', ic L, j', C.length)) /\ ch'.length <= C.length /\ D'.length = C.length /\ FC D' j' cs' /\ CG t (m + 1) e D' := by
 intro d
 induction d with
 | zero =>
  intro k f ch D cs j hk hf hj hch hD hDC hF hG
  obtain ⟨f, rfl⟩ := pS hf
  refine ⟨ch, D, cs, j, ?_, by omega, hD, hF, hG⟩
  show (Zs 600).b _ _ ((Zs 600).L f) some = _
  have e2 : decide ((k : Int) < ((C.length : Nat) : Int)) = false := dF (by omega)
  simp only [Zs]
  simp only [e2, zF, hF.dF]
 | succ d ih =>
  intro k f ch D cs j hk hf hj hch hD hDC hF hG
  obtain ⟨f, rfl⟩ := pS hf
  have hkl : k < C.length := by omega
  have hkd : k < D.length := by omega
  have hle := hC.le
  have e2 : decide ((k : Int) < ((C.length : Nat) : Int)) = true := dT (by omega)
  have h0 : 0 <= (k : Int) := by omega
  have hk1 : (k : Int) < (C.length : Int) := by omega
  have hkL : k < L.length := by omega
  have hx := hC.xs k hkl
  have hxl := hx.le
  have hla := za3 C[k] hx.ne (by omega)
  obtain ⟨u, hu⟩ : ∃ u, u = C[k].getLast hx.ne := ⟨_, rfl⟩
  rw [<- hu] at hla
  have hLast := hx.last
  rw [<- hu] at hLast
  have hop := zg8 600 u
  obtain ⟨s, v, a1, a2⟩ := zy5 A hA t u hLast.ev L[k] (k : Int) (hr _ (List.getElem_mem _)) ch C.length C.length (zO C) X cs (ic L) hF.dF (zF L) j C.length
  have n1 := zp (show k < 1000000 by omega)
  by_cases hadd : ZA (kdV u) = true /\ s = false
  ·obtain ⟨ho, rfl⟩ := hadd
   rw [ho] at hop
   have hnv := a2 ho
   simp only [Bool.false_eq_true, if_false] at hnv
   rw [hu] at hnv
   obtain ⟨g1, g2⟩ := zw2 hA hx hT hnv
   have hDk : D[k] = C[k] := hDC k hkd hkl (Nat.le_refl _)
   have hG' : CG t (m + 1) e (D.set k (D[k] ++ [v])) := by
    refine ⟨λ i hi => ?_, by simpa using hG.le⟩
    simp at hi
    rw [List.length_set, List.getElem_set]
    split
    ·rename_i e'; subst e'
     rw [hDk, hD]
     exact hx.snoc hT g1 g2
    ·exact hG.xs i hi
   obtain ⟨tk, q3, _, q4⟩ := hF.2 k hkd
   rw [q4 hj, hDk] at q3
   have hF' := (hF.to hj).set hkd (D[k] ++ [v]) (q := 6592) (by unfold TOB; omega)
   obtain ⟨ch', D', cs', j', r1, r2⟩ := ih (k + 1) f (ch ++ [[AV.v (.int .i64 (k : Int))]]) _ _ (k + 1) (by omega) (by omega) (by omega) (by simp; omega) (by simpa using hD) (λ i h h' hi => by
    rw [List.getElem_set_ne (by omega)]
    exact hDC i (by simpa using h) h' (by omega)) hF' hG'
   refine ⟨ch', D', cs', j', ?_, r2⟩
   show (Zs 600).b _ _ ((Zs 600).L f) some = _
   generalize (Zs 600).L f = Lf at r1 |-
   have a1' : zcJ 600 (ch, A.map zB, t, C.length, (k : Int), (u.1 == 2), L[k], decide (L[k] >= 0), zO C, X, C.length, u, (2, t, (⟨#[]⟩ : ByteArray), 0, u.2.2.2.2), cs, ic L, j, C.length) = _ := a1
   have hr' : (C[k].map zQ) ++ [zQ v] = (D[k] ++ [v]).map zQ := by rw [hDk]; simp
   have b1 : ((C[k].map zQ).length + [zQ v].length) * 288 <= zg := by unfold zg; simp; omega
   have b2 : k + 1 <= cs.length := by rw [hF.1]; omega
   have b3 : (ch.length + [[AV.v (.int .i64 (k : Int))]].length) * 8 <= zg := by unfold zg; simp; omega
   have sp : (splice cs k [AV.list 29 ((D[k] ++ [v]).map zQ) (some 6592)])[k]? = some (AV.list 29 ((D[k] ++ [v]).map zQ) (some 6592)) := by
    show (cs.set k _)[k]? = _
    rw [List.getElem?_set_self (by omega)]
   have l1 : jZ 29 (AV.list 29 ((D[k] ++ [v]).map zQ) (some 6592)) = some ((D[k] ++ [v]).map zQ) := by simp [jZ]
   have c1 : decide ((((D[k] ++ [v]).map zQ).length : Int) > 100) = false := by rw [decide_eq_false_iff_not, hDk]; simp; omega
   simp only [Zs]
   simp only [e2, h0, hk1, decide_true, and_self, if_true, Int.toNat_natCast, zS C k hkl, rd6, hla, Nat.zero_add, Nat.mul_one, Nat.add_zero, JO L k hkL, hF.dF, zF, a1', hop, Bool.not_false, q3, hj, hkl, hr', b2, b3, sp, l1, c1, n1]
   rw [if_pos b1]
   exact r1
  ·obtain ⟨ch', D', cs', j', r1, r2⟩ := ih (k + 1) f ch D cs j (by omega) (by omega) (by omega) (by omega) hD (λ i h h' hi => hDC i h h' (by omega)) hF hG
   refine ⟨ch', D', cs', j', ?_, r2⟩
   show (Zs 600).b _ _ ((Zs 600).L f) some = _
   generalize (Zs 600).L f = Lf at r1 |-
   have a1' : zcJ 600 (ch, A.map zB, t, C.length, (k : Int), (u.1 == 2), L[k], decide (L[k] >= 0), zO C, X, C.length, u, (2, t, (⟨#[]⟩ : ByteArray), 0, u.2.2.2.2), cs, ic L, j, C.length) = _ := a1
   simp only [Zs]
   simp only [e2, h0, hk1, decide_true, and_self, if_true, Int.toNat_natCast, zS C k hkl, rd6, hla, Nat.zero_add, Nat.mul_one, Nat.add_zero, JO L k hkL, hF.dF, zF, a1', hop, n1]
   cases ho : ZA (kdV u) with
   | false => exact r1
   | true =>
    cases s with
    | true => exact r1
    | false => exact absurd ⟨ho, rfl⟩ hadd
end Go.Proofs.YthdgnfcbehcplaaDoor
end
section
namespace Go.Proofs.YthdgnfcbehcplaaDoor
theorem ziS (D : List (List RT7)) (v : RT7) : ((zar D).take (D.length * 1) ++ [AV.list 29 [zQ v] none]).map dat0 = zar (D ++ [[v]]) := by
 rw [Nat.mul_one, List.take_of_length_le (by rw [zaW]; exact Nat.le_refl _), List.map_append, jV, <- zuq]
 rfl
theorem zlm {t : Int} (h0 : 0 <= t) (A : List RT0) (hA : ∀ a ∈ A, EvG a) (hAl : A.length <= 100) (L : List Int) (hL : L.length <= 500) (X : List (List AV)) {m : Nat} (hm : 1 <= m) : ∀ (d k f e : Nat) (ch : List (List AV)) (D : List (List RT7)), k + d = A.length -> d < f -> e + d <= 500 -> ch.length <= e -> CG t m e D ->
  ∃ (ch' : List (List AV)) (D' : List (List RT7)), (Zt 600).L f (ch, A.map zB, t, L.length, (k : Int), X, D.length, ic L, zar D) = some (ch', X, D'.length, zar D') /\ CG t m (e + d) D' := by
 intro d
 induction d with
 | zero =>
  intro k f e ch D hk hf he hch hG
  obtain ⟨f, rfl⟩ := pS hf
  refine ⟨ch, D, ?_, hG⟩
  show (Zt 600).b _ _ ((Zt 600).L f) some = _
  have e2 : decide ((k : Int) < (A.length : Int)) = false := dF (by omega)
  simp only [Zt]
  simp only [List.length_map, e2, jV]
 | succ d ih =>
  intro k f e ch D hk hf he hch hG
  obtain ⟨f, rfl⟩ := pS hf
  have hkl : k < A.length := by omega
  have hDl := hG.le
  have e2 : decide ((k : Int) < (A.length : Int)) = true := dT (by omega)
  have h0 : 0 <= (k : Int) := by omega
  have n1 := zp (show k < 1000000 by omega)
  obtain ⟨b, j1, j2⟩ := zEj L (k : Int) hL
  cases b with
  | true =>
   obtain ⟨ch', D', r1, r2⟩ := ih (k + 1) f e ch D (by omega) (by omega) (by omega) hch hG
   refine ⟨ch', D', ?_, r2.mono (Int.le_refl _) (Nat.le_refl _) (by omega)⟩
   show (Zt 600).b _ _ ((Zt 600).L f) some = _
   generalize (Zt 600).L f = Lf at r1 |-
   simp only [Zt]
   simp only [List.length_map, e2, jV, zF, j1, Bool.not_true, n1]
   exact r1
  | false =>
   have hv : VG t (D.length + 1) D.length (zaG t A[k]) := zo2 (T := t) (by assumption) (hA _ (List.getElem_mem _))
   obtain ⟨ch', D', r1, r2⟩ := ih (k + 1) f (e + 1) (ch ++ [[AV.v (.int .i64 ((D.length : Nat) : Int))]]) (D ++ [[zaG t A[k]]]) (by omega) (by omega) (by omega) (by simp; omega) (hG.add hm hv rfl)
   refine ⟨ch', D', ?_, r2.mono (Int.le_refl _) (Nat.le_refl _) (by omega)⟩
   have hl1 : (D ++ [[zaG t A[k]]]).length = D.length + 1 := by simp
   rw [hl1, <- ziS] at r1
   show (Zt 600).b _ _ ((Zt 600).L f) some = _
   generalize (Zt 600).L f = Lf at r1 |-
   have b1 : (ch.length + 1) * 8 <= zg := by unfold zg; omega
   have b2 : (D.length * 1 <= (zar D).length /\ (D.length + 1) * 24 <= zg) := by rw [zaW]; unfold zg; omega
   simp only [Zt]
   simp only [List.length_map, e2, jV, zF, j1, Bool.not_false, n1, h0, if_true, Int.toNat_natCast, zcm A k hkl, ZD, List.length_cons, List.length_nil, Nat.zero_add]
   rw [if_pos b1]
   exact (if_pos b2).trans r1
theorem zpP {T t : Int} {m e : Nat} {C : List (List RT7)} (hC : CG T m e C) {A : List RT0} {M : Nat} (hM : M <= 5) (hA : Evs 0 M A) (he : e + M <= 500) (hm : m < 100) (hT : T <= t) (ht0 : 0 <= t) (ht : t <= 18014398509481984) : ∃ C' l, zqW 600 (zO C, A.map zB, t) = some (zO C', l, 0) /\ CG t (m + 1) (e + M) C' := by
 have hle := hC.le
 have hAl := zdr hA
 have hg : ∀ a ∈ A, EvG a := λ a ha => (hA.evn hM a ha).g
 have hV := zoW (by omega) (by omega) (by omega) hC
 have hE := zb6 hM hA
 have hL := zjg hT (by omega) (by omega) hC
 obtain ⟨cs, q1, q2⟩ := zwR (C := C) (by omega) (hC.small (by omega))
 obtain ⟨L, f1, f2, f3⟩ := zuG hC (by omega) (by omega) A (by omega) (λ a ha => (hg a ha).pk)
 obtain ⟨ch, D, cs', j, p1, p2, p3, p4, p5⟩ := zll hC (by omega) hm hT A hg L f2 f3 [] C.length 0 600 [] C cs 0 (by omega) (by omega) (by omega) (by simp) rfl (λ i h h' _ => rfl) q2 (hC.mono hT (by omega) (Nat.le_refl _))
 obtain ⟨ch2, D2, s1, s2⟩ := zlm ht0 A hg (by omega) L (by omega) [] (m := m + 1) (by omega) A.length 0 600 (e + (M - A.length)) ch D (by omega) (by omega) (by omega) (by omega) (p5.mono (Int.le_refl _) (Nat.le_refl _) (by omega))
 replace p1 : (Zs 600).L 600 ([], A.map zB, t, C.length, 0, zO C, [], C.length, cs, ic L, 0, C.length) = _ := p1
 replace s1 : (Zt 600).L 600 (ch, A.map zB, t, L.length, 0, [], D.length, ic L, zar D) = _ := s1
 rw [f2, p3] at s1
 have s3 : CG t (m + 1) (e + M) D2 := s2.mono (Int.le_refl _) (Nat.le_refl _) (by omega)
 have s4 := s3.le
 have n5 : decide (t < 0) = false := dF (by omega)
 have n6 : decide (t > 18014398509481984) = false := dF (by omega)
 have n7 : decide (((D2.length : Nat) : Int) > 500) = false := dF (by omega)
 have n8 : D2.length * 1 <= (zar D2).length := by rw [zaW]; omega
 refine ⟨D2, ch2, ?_, s3⟩
 simp only [zqW, FSpec.d, zdU, hV, hE, hL, Bool.not_true, n5, n6, q1, q2.dJ, q2.dF, f1, zF, zml, p1, zmm, p4.d0, s1, n7]
 rw [if_pos n8, zeI]
theorem zfZ {xs : List Int} {p : Int} (D : Sc xs p) : ∃ b p', zho 600 ([[AV.v (.string (⟨#[97, 110, 110]⟩ : ByteArray))], [AV.v (.string (⟨#[98, 111, 98]⟩ : ByteArray))]], zt xs, p) = some (b, zt xs, p') /\ Per b /\ Sc xs p' := by
 obtain ⟨v, p1, h1, m1, D1⟩ := zec 600 (n := 2) (by omega) D
 replace h1 : zc4 600 ((([[AV.v (.string (⟨#[97, 110, 110]⟩ : ByteArray))], [AV.v (.string (⟨#[98, 111, 98]⟩ : ByteArray))]] : List (List AV)).length : Int), zt xs, p) = some (v, zt xs, p1) := h1
 have h0 : 0 <= v := m1.1
 rcases (show v = 0 \/ v = 1 by omega) with rfl | rfl
 ·refine ⟨ann, p1, ?_, .inl rfl, D1⟩
  simp only [zho, FSpec.d, zxk, h1]
  rfl
 ·refine ⟨bob, p1, ?_, .inr rfl, D1⟩
  simp only [zho, FSpec.d, zxk, h1]
  rfl
theorem zle {xs : List Int} (n : Nat) (hn : n <= 50) (X : List (List AV)) : ∀ (d i f : Nat) (p now : Int) (C : List (List RT7)), i + d = n -> d < f -> Sc xs p -> 100 <= now -> now <= 100 + 50 * i -> CG now i (4 * i) C ->
  ∃ (now' p' : Int) (C' : List (List RT7)), (zaD 600).L f ((n : Int), now, (i : Int), zt xs, p, X, zO C) = some (now', zt xs, p', X, zO C') /\ Sc xs p' /\ 100 <= now' /\ now' <= 100 + 50 * n /\ CG now' n (4 * n) C' := by
 intro d
 induction d with
 | zero =>
  intro i f p now C hi hf D h1 h2 hC
  obtain ⟨f, rfl⟩ := pS hf
  obtain rfl : i = n := by omega
  refine ⟨now, p, C, ?_, D, h1, h2, hC⟩
  show (zaD 600).b _ _ ((zaD 600).L f) some = _
  have e2 : decide ((i : Int) < (i : Int)) = false := dF (by omega)
  simp only [zaD]
  simp only [e2]
 | succ d ih =>
  intro i f p now C hi hf D h1 h2 hC
  obtain ⟨f, rfl⟩ := pS hf
  have hle := hC.le
  have e2 : decide ((i : Int) < (n : Int)) = true := dT (by omega)
  have n1 := zp (show i < 1000000 by omega)
  obtain ⟨a1, p1, g1, m1, D1⟩ := zec 600 (n := 50) (by omega) D
  obtain ⟨mx, hmx⟩ : ∃ mx : Int, mx = if (C.length : Int) > 1 then (C.length : Int) else 1 := ⟨_, rfl⟩
  have hmx' : 1 <= mx /\ mx <= 1000 := by rw [hmx]; split <;> omega
  obtain ⟨a2, p2, g2, m2, D2⟩ := zec 600 (n := mx) (by omega) D1
  obtain ⟨a3, p3, g3, m3, D3⟩ := zec 600 (n := 8) (by omega) D2
  have i1 : i64 (now + a1) = now + a1 := Zu (by omega)
  obtain ⟨id, hid⟩ : ∃ id : Nat, a2 = (id : Int) := ⟨a2.toNat, by omega⟩
  subst hid
  have hgo : ∀ (q : Int) (C' : List (List RT7)), Sc xs q -> CG (now + a1) (i + 1) (4 * (i + 1)) C' -> ∃ (now' p' : Int) (C'' : List (List RT7)), (zaD 600).L f ((n : Int), now + a1, ((i + 1 : Nat) : Int), zt xs, q, X, zO C') = some (now', zt xs, p', X, zO C'') /\ Sc xs p' /\ 100 <= now' /\ now' <= 100 + 50 * n /\ CG now' n (4 * n) C'' := λ q C' hq hc => ih (i + 1) f q (now + a1) C' (by omega) (by omega) hq (by omega) (by omega) hc
  have hkeep : CG (now + a1) (i + 1) (4 * (i + 1)) C := hC.mono (by omega) (by omega) (by omega)
  have hres : ∀ y, (zaD 600).b ((n : Int), now, (i : Int), zt xs, p, X, zO C) _ ((zaD 600).L f) some = y -> (zaD 600).L (f + 1) ((n : Int), now, (i : Int), zt xs, p, X, zO C) = y := λ y h => h
  have key : ∃ (q : Int) (C' : List (List RT7)), (zaD 600).b ((n : Int), now, (i : Int), zt xs, p, X, zO C) _ ((zaD 600).L f) some = (zaD 600).L f ((n : Int), now + a1, ((i + 1 : Nat) : Int), zt xs, q, X, zO C') /\ Sc xs q /\ CG (now + a1) (i + 1) (4 * (i + 1)) C' := by
   obtain ⟨Lf, hLf⟩ : ∃ Lf, Lf = (zaD 600).L f := ⟨_, rfl⟩
   rw [<- hLf]
   simp only [zaD]
   simp only [e2, g1, zT, <- hmx, g2, g3, i1, n1]
   have he0 : 4 * i <= 500 := by omega
   rcases (show a3 = 0 \/ a3 = 1 \/ a3 = 2 \/ a3 = 3 \/ 4 <= a3 by omega) with rfl | rfl | rfl | rfl | h4
   ·have c0 : ((0 : Int) == 0) = true := by decide
    simp only [c0]
    obtain ⟨A, p4, g4, l4, v4, D4⟩ := zpb 4 (by omega) D3
    replace g4 : zwK 600 (4, zt xs, p3) = some (A.map zB, zt xs, p4) := g4
    simp only [g4, List.length_map]
    by_cases hA : 0 < A.length
    ·have c1 : decide ((A.length : Int) > 0) = true := dT (by omega)
     obtain ⟨b, p5, g5, hb, D5⟩ := zfZ D4
     obtain ⟨a6, p6, g6, m6, D6⟩ := zec 600 (n := (A.length : Int)) (by omega) D5
     obtain ⟨z, rfl⟩ : ∃ z : Nat, a6 = (z : Int) := ⟨a6.toNat, by omega⟩
     have hz : z < A.length := by omega
     have hz0 : 0 <= (z : Int) := by omega
     obtain ⟨d1, y1, r1, r2⟩ := zvb hC he0 (by omega) (t := now + a1) (by omega) (by omega) (by omega) hb (v4.evn (by omega) A[z] (List.getElem_mem _)).g id
     simp only [c1, g5, g6, hz0, if_true, Int.toNat_natCast, zcm A z hz, ZD, r1]
     by_cases hy : y1 = 0
     ·obtain ⟨C', rfl, hC'⟩ := r2 hy
      have c2 : (y1 == 0) = true := by simp [hy]
      simp only [c2]
      exact ⟨p6, C', rfl, D6, hC'.mono (Int.le_refl _) (Nat.le_refl _) (by omega)⟩
     ·have c2 : (y1 == 0) = false := by simp [hy]
      simp only [c2]
      exact ⟨p6, C, rfl, D6, hkeep⟩
    ·have c1 : decide ((A.length : Int) > 0) = false := dF (by omega)
     simp only [c1]
     exact ⟨p4, C, rfl, D4, hkeep⟩
   ·have c0 : ((1 : Int) == 0) = false := by decide
    have c1 : ((1 : Int) == 1) = true := by decide
    obtain ⟨b, p5, g5, hb, D5⟩ := zfZ D3
    obtain ⟨d1, y1, r1, r2⟩ := zuA hC he0 (by omega) (t := now + a1) (by omega) (by omega) (by omega) hb id
    simp only [c0, c1, g5, r1]
    by_cases hy : y1 = 0
    ·obtain ⟨C', rfl, hC'⟩ := r2 hy
     have c2 : (y1 == 0) = true := by simp [hy]
     simp only [c2]
     exact ⟨p5, C', rfl, D5, hC'.mono (Int.le_refl _) (Nat.le_refl _) (by omega)⟩
    ·have c2 : (y1 == 0) = false := by simp [hy]
     simp only [c2]
     exact ⟨p5, C, rfl, D5, hkeep⟩
   ·have c0 : ((2 : Int) == 0) = false := by decide
    have c1 : ((2 : Int) == 1) = false := by decide
    have c2 : ((2 : Int) == 2) = true := by decide
    obtain ⟨a4, p4, g4, m4, D4⟩ := zec 600 (n := mx) (by omega) D3
    obtain ⟨to, rfl⟩ : ∃ to : Nat, a4 = (to : Int) := ⟨a4.toNat, by omega⟩
    obtain ⟨b, p5, g5, hb, D5⟩ := zfZ D4
    obtain ⟨d1, y1, r1, r2⟩ := zyJ hC he0 (by omega) (t := now + a1) (by omega) (by omega) (by omega) hb id to
    simp only [c0, c1, c2, g4, g5, r1]
    by_cases hy : y1 = 0
    ·obtain ⟨C', rfl, hC'⟩ := r2 hy
     have c2 : (y1 == 0) = true := by simp [hy]
     simp only [c2]
     exact ⟨p5, C', rfl, D5, hC'.mono (Int.le_refl _) (Nat.le_refl _) (by omega)⟩
    ·have c2 : (y1 == 0) = false := by simp [hy]
     simp only [c2]
     exact ⟨p5, C, rfl, D5, hkeep⟩
   ·have c0 : ((3 : Int) == 0) = false := by decide
    have c1 : ((3 : Int) == 1) = false := by decide
    have c2 : ((3 : Int) == 2) = false := by decide
    have c3 : ((3 : Int) == 3) = true := by decide
    obtain ⟨b, p5, g5, hb, D5⟩ := zfZ D3
    obtain ⟨d1, y1, r1, r2⟩ := zpT hC he0 (by omega) (t := now + a1) (by omega) (by omega) (by omega) hb id
    simp only [c0, c1, c2, c3, g5, r1]
    by_cases hy : y1 = 0
    ·obtain ⟨C', rfl, hC'⟩ := r2 hy
     have c2 : (y1 == 0) = true := by simp [hy]
     simp only [c2]
     exact ⟨p5, C', rfl, D5, hC'.mono (Int.le_refl _) (Nat.le_refl _) (by omega)⟩
    ·have c2 : (y1 == 0) = false := by simp [hy]
     simp only [c2]
     exact ⟨p5, C, rfl, D5, hkeep⟩
   ·have c0 : (a3 == 0) = false := by simp; omega
    have c1 : (a3 == 1) = false := by simp; omega
    have c2 : (a3 == 2) = false := by simp; omega
    have c3 : (a3 == 3) = false := by simp; omega
    obtain ⟨A, p4, g4, l4, v4, D4⟩ := zpb 4 (by omega) D3
    replace g4 : zwK 600 (4, zt xs, p3) = some (A.map zB, zt xs, p4) := g4
    obtain ⟨C', l, r1, r2⟩ := zpP hC (by omega) v4 (by omega) (by omega) (t := now + a1) (by omega) (by omega) (by omega)
    have c4 : ((0 : Int) == 0) = true := by decide
    simp only [c0, c1, c2, c3, g4, r1, c4]
    exact ⟨p4, C', rfl, D4, r2.mono (Int.le_refl _) (Nat.le_refl _) (by omega)⟩
  obtain ⟨q, C', k1, k2, k3⟩ := key
  obtain ⟨now', p', C'', s1, s2⟩ := hgo q C' k2 k3
  exact ⟨now', p', C'', hres _ (k1.trans s1), s2⟩
theorem zuJ {xs : List Int} {p : Int} (D : Sc xs p) (n : Nat) (hn : n <= 50) : ∃ (C : List (List RT7)) (t p' : Int), zDC 600 ((n : Int), zt xs, p) = some (zO C, t, zt xs, p') /\ Sc xs p' /\ 100 <= t /\ t <= 100 + 50 * n /\ CG t n (4 * n) C := by
 obtain ⟨t, p', C, h1, h2, h3, h4, h5⟩ := zle n hn [] n 0 600 p 100 [] (by omega) (by omega) D (by omega) (by omega) (CG.nil _ _ _)
 replace h1 : (zaD 600).L 600 ((n : Int), 100, 0, zt xs, p, [], []) = _ := h1
 refine ⟨C, t, p', ?_, h2, h3, h4, h5⟩
 simp only [zDC, FSpec.d, zEs, zAM, h1]
end Go.Proofs.YthdgnfcbehcplaaDoor
end
