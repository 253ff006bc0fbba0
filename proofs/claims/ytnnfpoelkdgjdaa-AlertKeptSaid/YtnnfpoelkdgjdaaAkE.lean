/- Several texts as one (written by pack.py). -/
import Derived.Test.YtnnfpoelkdgjdaaAkD
section
namespace Go.Proofs.Ytnnfpoelkdgjdaa
open Go.RowKit
set_option linter.unusedVariables false
set_option linter.unusedSimpArgs false
set_option linter.unnecessarySimpa false
set_option maxRecDepth 4000
def F54_an : Nat → Keep × Keep := anL []
noncomputable def F54_g (N : Nat) : GamK := gam (P := Try.prog) []
noncomputable def zhl (N : Nat) : FSpec where
  X := Int
  Y := Bool
  ash := [[none]]
  bsh := []
  S := ⟨[[none]], [], [], [], []⟩
  bm := false
  pat := fun a b => rdA [.int .i64] [] a b fun ⟨a0, _⟩ _ => a0
  args := fun x => [(AV.v (.int .i64 x))]
  bs := fun x => []
  ret := fun y => ⟨(AV.v (.bool y)), [], none, [], [], []⟩
  t := fun x α k => (match (decide (x ≥ 0)) with | true => (k (decide (x ≤ 9007199254740992))) | false => (k false))
noncomputable abbrev zhV (N : Nat) (x : Int) : Option (Bool) := (zhl N).d x
theorem F54_parF (N : Nat) : ParF (zhl N).t := by
  intro x α β k k' r r' h h1
  revert h
  dsimp only [zhl]
  (repeat' (first | (with_reducible refine zf ?_ ?_) | (with_reducible refine zc ?_ ?_) | split)) <;> intro h <;> first | exact h1 _ h | (cases h; done)
theorem F54_text (N : Nat) : TxOk (zt Try.prog) (F54_g N) F54_an (lam N []) Try.f54 (zhl N) := fun x => by kernel_rfl
noncomputable def F54_e (N : Nat) : Ent Try.prog := zC (ze Try.prog) (zk _) zn 54 Try.f54 Try.func54 rfl F54_an (lam N []) (zq (l := []) an (by kernel_rfl)) (zhl N) (fun _ => ⟨rfl, rfl⟩) (F54_text N) (fun _ _ _ h => zB h (fun _ _ => rfl) (fun _ _ => rfl)) (F54_parF N)
def JX : Nat → Keep × Keep := anL [(8, ⟨[1, 3], [], [1], [], [], [], [], [], false⟩, ⟨[2], [], [], [], [], [], [], [], false⟩)]
noncomputable def F33_g (N : Nat) : GamK := gam (P := Try.prog) [F54_e N]
noncomputable def jy (N : Nat) : LSpec where
  X := Int × (List (List AV)) × Int × Int
  Y := (Int) ⊕ (Unit)
  p := fun s => rdS 69 0 [(1, .ptr 1 0), (3, .int .i64)] [(1, .cells [.lst 4, .int .i64, .int .i64])] s fun ⟨_, a0, _⟩ ⟨⟨a1, a2, a3, _⟩, _⟩ => (a0, a1, a2, a3)
  st := fun u8 => mkS 69 [(1, (AV.ptr 1 0)), (3, (AV.v (.int .i64 u8.1)))] [(1, [(AV.list 4 u8.2.1 none), (AV.v (.int .i64 u8.2.2.1)), (AV.v (.int .i64 u8.2.2.2))])] (JX 8).1.toks 0
  out := fun y => match y with
    | .inl y => (.ret, mkS 69 [(2, (AV.v (.int .i64 y)))] [] (JX 8).2.toks 0)
    | .inr y => (.exit 0, mkS 69 [] [] (JX 8).2.toks 0)
  sp := fun y α k => match y with
    | .inl y => k (.ret, mkS 69 [(2, (AV.v (.int .i64 y)))] [] (JX 8).2.toks 0)
    | .inr y => k (.exit 0, mkS 69 [] [] (JX 8).2.toks 0)
  spe := fun y α k => by rcases y with _ | _ <;> rfl
  b := fun u8 α kn ke => (match (decide (u8.1 < (u8.2.1.length : Int))) with | true => (if 0 ≤ u8.1 then (match u8.2.1[u8.1.toNat]? with | some c3 => (match Rrd4 c3 with | some e4 => (match (decide (e4.1 < (-1000))) with | true => (ke (.inl 27)) | false => (match (decide (e4.1 > 2000)) with | true => (ke (.inl 27)) | false => (match (decide (e4.2.1 < 1)) with | true => (ke (.inl 27)) | false => (match (decide (e4.2.1 > 64)) with | true => (ke (.inl 27)) | false => (match zhV N e4.2.2.1 with | some y5 => (match (!y5) with | true => (ke (.inl 27)) | false => (match zhV N e4.2.2.2.1 with | some y6 => (match (!y6) with | true => (ke (.inl 27)) | false => (kn ((i64 (u8.1 + 1)), u8.2))) | none => none)) | none => none))))) | none => none) | none => none) else none) | false => (ke (.inr ())))
noncomputable abbrev F33_d8 (N : Nat) (x : Int × (List (List AV)) × Int × Int) : Option ((Int) ⊕ (Unit)) := (jy N).L N x
noncomputable def zcM (N : Nat) : FSpec where
  X := (List (List AV)) × Int × Int
  Y := Int
  ash := [[some 4, none, none]]
  bsh := []
  S := ⟨[[none]], [], [], [], []⟩
  bm := false
  pat := fun a b => zj a fun v1 c2 => Z2 v1 fun c3 => zj c3 fun c4 c5 => pLst 4 c4 fun a0 => zj c5 fun c6 c7 => pInt .i64 c6 fun a1 => zj c7 fun c8 c9 => pInt .i64 c8 fun a2 => pEnd c9 <| pEnd c2 <| pEnd b <| some (a0, a1, a2)
  args := fun x => [(AV.agg [(AV.list 4 x.1 none), (AV.v (.int .i64 x.2.1)), (AV.v (.int .i64 x.2.2))])]
  bs := fun x => []
  ret := fun y => ⟨(AV.v (.int .i64 y)), [], none, [], [], []⟩
  t := fun x α k => (match (decide ((x.1.length : Int) < 1)) with | true => (k 27) | false => (match (decide ((x.1.length : Int) > 8)) with | true => (k 27) | false => (match zhV N x.2.1 with | some y1 => (match (!y1) with | true => (k 27) | false => (match zhV N x.2.2 with | some y2 => (match (!y2) with | true => (k 27) | false => (match F33_d8 N (0, x) with | some y7 => (match y7 with | .inl z8 => (k z8) | .inr z9 => (k 0)) | none => none)) | none => none)) | none => none)))
noncomputable abbrev zjm (N : Nat) (x : (List (List AV)) × Int × Int) : Option (Int) := (zcM N).d x
noncomputable def zeO (N : Nat) : List (Nat × LSpec) := [(8, jy N)]
noncomputable def F33_c : Code := Try.f33.body.getD .skip
theorem F33_par8 (N : Nat) : Par (jy N).b := by
  intro x α β kn ke kn' ke' r r' h h1 h2
  revert h
  dsimp only [jy]
  (repeat' (first | (with_reducible refine zf ?_ ?_) | (with_reducible refine zc ?_ ?_) | split)) <;> intro h <;> first | exact h1 _ h | exact h2 _ h | (cases h; done)
theorem zkq (N : Nat) : BdOk (zt Try.prog) (F33_g N) JX N (zeO N) 8 F33_c (jy N) := fun x α kn ke => by kernel_rfl
theorem zmi (N : Nat) : LpOk Try.prog JX N (zeO N) 8 (zd 8 F33_c) :=
  zD (ze Try.prog) (zk _) zn JX N (zeO N) 8 F33_c (l := []) (by kernel_rfl) (by kernel_rfl) an (jy N) rfl (fun s x hc h => by dsimp only [jy] at h; exact zH hc h (fun _ _ => rfl) rfl rfl) (fun _ => rfl) (zkq N) (F33_par8 N)
theorem F33_parF (N : Nat) : ParF (zcM N).t := by
  intro x α β k k' r r' h h1
  revert h
  dsimp only [zcM]
  (repeat' (first | (with_reducible refine zf ?_ ?_) | (with_reducible refine zc ?_ ?_) | split)) <;> intro h <;> first | exact h1 _ h | (cases h; done)
theorem F33_text (N : Nat) : TxOk (zt Try.prog) (F33_g N) JX (lam N (zeO N)) Try.f33 (zcM N) := fun x => by kernel_rfl
theorem F33_pat (N : Nat) (a : List AV) (b : List (List AV)) (x : (zcM N).X) (h : (zcM N).pat a b = some x) : a = (zcM N).args x ∧ b = (zcM N).bs x := by
  obtain ⟨v1, c2, rfl, g0⟩ := zb (show zj _ _ = some x from h)
  obtain ⟨c3, rfl, g1⟩ := zJ g0; clear g0
  obtain ⟨c4, c5, rfl, g2⟩ := zb g1; clear g1
  obtain ⟨a0, rfl, g3⟩ := zy g2; clear g2
  obtain ⟨c6, c7, rfl, g4⟩ := zb g3; clear g3
  obtain ⟨a1, rfl, g5⟩ := zi g4; clear g4
  obtain ⟨c8, c9, rfl, g6⟩ := zb g5; clear g5
  obtain ⟨a2, rfl, g7⟩ := zi g6; clear g6
  obtain ⟨rfl, g8⟩ := zg g7; clear g7
  obtain ⟨rfl, g9⟩ := zg g8; clear g8
  obtain ⟨rfl, g10⟩ := zg g9; clear g9
  clear h
  cases g10
  exact ⟨rfl, rfl⟩
noncomputable def F33_e (N : Nat) : Ent Try.prog := zC (ze Try.prog) (zk _) zn 33 Try.f33 Try.func33 rfl JX (lam N (zeO N)) (zq (l := [(8, zd 8 F33_c)]) (al (zmi N) an) (by kernel_rfl)) (zcM N) (fun _ => ⟨rfl, rfl⟩) (F33_text N) (F33_pat N) (F33_parF N)
def Z6 : Nat → Keep × Keep := anL [(4, ⟨[3], [], [], [(0, 38)], [], [], [], [], false⟩, ⟨[2], [], [], [(0, 38)], [], [], [], [], false⟩), (16, ⟨[3, 4], [], [], [(0, 38)], [], [], [], [], false⟩, ⟨[2, 3], [], [], [(0, 38)], [], [], [], [], false⟩)]
noncomputable def F72_g (N : Nat) : GamK := gam (P := Try.prog) []
noncomputable def ZE (N : Nat) : LSpec where
  X := (List (List AV)) × Int × Int
  Y := ((List (List AV)) × Bool × Int) ⊕ ((List (List AV)) × Int)
  p := fun s => rdS 94 0 [(0, .lst 38), (3, .int .i64), (4, .int .i64)] [] s fun ⟨a0, a1, a2, _⟩ _ => (a0, a1, a2)
  st := fun u16 => mkS 94 [(0, (AV.list 38 u16.1 none)), (3, (AV.v (.int .i64 u16.2.1))), (4, (AV.v (.int .i64 u16.2.2)))] [] (Z6 16).1.toks 0
  out := fun y => match y with
    | .inl y => (.ret, mkS 94 [(0, (AV.list 38 y.1 none)), (2, (AV.v (.bool y.2.1))), (3, (AV.v (.int .i64 y.2.2)))] [] (Z6 16).2.toks 0)
    | .inr y => (.exit 2, mkS 94 [(0, (AV.list 38 y.1 none)), (3, (AV.v (.int .i64 y.2)))] [] (Z6 16).2.toks 0)
  sp := fun y α k => match y with
    | .inl y => k (.ret, mkS 94 [(0, (AV.list 38 y.1 none)), (2, (AV.v (.bool y.2.1))), (3, (AV.v (.int .i64 y.2.2)))] [] (Z6 16).2.toks 0)
    | .inr y => k (.exit 2, mkS 94 [(0, (AV.list 38 y.1 none)), (3, (AV.v (.int .i64 y.2)))] [] (Z6 16).2.toks 0)
  spe := fun y α k => by rcases y with _ | _ <;> rfl
  b := fun u16 α kn ke => (match (decide (u16.2.2 < u16.2.1)) with | true => (if 0 ≤ u16.2.1 then (match u16.1[u16.2.1.toNat]? with | some c25 => (match (c25.drop 1)[0]? with | some x26 => (match x26 with | .v (.bool b27) => (match (!b27) with | true => (if 0 ≤ u16.2.2 then (match u16.1[u16.2.2.toNat]? with | some c28 => (match (c28.drop 1)[0]? with | some x29 => (match x29 with | .v (.bool b30) => (match (!b30) with | true => (if 0 ≤ u16.2.1 then (match u16.1[u16.2.1.toNat]? with | some c31 => (match Rrd1 (c31.drop 2) with | some e32 => (if 0 ≤ u16.2.2 then (match u16.1[u16.2.2.toNat]? with | some c33 => (match Rrd1 (c33.drop 2) with | some e34 => (match (((e32.1 == e34.1) && ((e32.2.1 == e34.2.1) && ((e32.2.2.1 == e34.2.2.1) && ((e32.2.2.2.1 == e34.2.2.2.1) && true)))) && ((e32.2.2.2.2.1 == e34.2.2.2.2.1) && ((e32.2.2.2.2.2.1 == e34.2.2.2.2.2.1) && ((e32.2.2.2.2.2.2.1 == e34.2.2.2.2.2.2.1) && ((e32.2.2.2.2.2.2.2.1 == e34.2.2.2.2.2.2.2.1) && ((e32.2.2.2.2.2.2.2.2.1 == e34.2.2.2.2.2.2.2.2.1) && true)))))) with | true => (ke (.inl (u16.1, false, u16.2.1))) | false => (kn (u16.1, u16.2.1, (i64 (u16.2.2 + 1))))) | none => none) | none => none) else none) | none => none) | none => none) else none) | false => (kn (u16.1, u16.2.1, (i64 (u16.2.2 + 1))))) | _ => none) | none => none) | none => none) else none) | false => (kn (u16.1, u16.2.1, (i64 (u16.2.2 + 1))))) | _ => none) | none => none) | none => none) else none) | false => (ke (.inr (u16.1, u16.2.1))))
noncomputable abbrev zf9 (N : Nat) (x : (List (List AV)) × Int × Int) : Option (((List (List AV)) × Bool × Int) ⊕ ((List (List AV)) × Int)) := (ZE N).L N x
noncomputable def js (N : Nat) : LSpec where
  X := (List (List AV)) × Int
  Y := ((List (List AV)) × Bool) ⊕ ((List (List AV)))
  p := fun s => rdS 94 0 [(0, .lst 38), (3, .int .i64)] [] s fun ⟨a0, a1, _⟩ _ => (a0, a1)
  st := fun u4 => mkS 94 [(0, (AV.list 38 u4.1 none)), (3, (AV.v (.int .i64 u4.2)))] [] (Z6 4).1.toks 0
  out := fun y => match y with
    | .inl y => (.ret, mkS 94 [(0, (AV.list 38 y.1 none)), (2, (AV.v (.bool y.2)))] [] (Z6 4).2.toks 0)
    | .inr y => (.exit 0, mkS 94 [(0, (AV.list 38 y none))] [] (Z6 4).2.toks 0)
  sp := fun y α k => match y with
    | .inl y => k (.ret, mkS 94 [(0, (AV.list 38 y.1 none)), (2, (AV.v (.bool y.2)))] [] (Z6 4).2.toks 0)
    | .inr y => k (.exit 0, mkS 94 [(0, (AV.list 38 y none))] [] (Z6 4).2.toks 0)
  spe := fun y α k => by rcases y with _ | _ <;> rfl
  b := fun u4 α kn ke => (match (decide (u4.2 < (u4.1.length : Int))) with | true => (if 0 ≤ u4.2 then (match u4.1[u4.2.toNat]? with | some c1 => (match (c1.drop 0)[0]? with | some x2 => (match x2 with | .v (.int q4 n3) => (if q4 = .i64 then (match (decide (n3 < 0)) with | true => (ke (.inl (u4.1, false))) | false => (if 0 ≤ u4.2 then (match u4.1[u4.2.toNat]? with | some c5 => (match (c5.drop 0)[0]? with | some x6 => (match x6 with | .v (.int q8 n7) => (if q8 = .i64 then (match (decide (n7 ≥ 1000)) with | true => (ke (.inl (u4.1, false))) | false => (match (decide (u4.2 > 0)) with | true => (if 0 ≤ u4.2 then (match u4.1[u4.2.toNat]? with | some c9 => (match (c9.drop 0)[0]? with | some x10 => (match x10 with | .v (.int q12 n11) => (if q12 = .i64 then (if 0 ≤ (i64 (u4.2 - 1)) then (match u4.1[(i64 (u4.2 - 1)).toNat]? with | some c13 => (match (c13.drop 0)[0]? with | some x14 => (match x14 with | .v (.int q16 n15) => (if q16 = .i64 then (match (decide (n11 ≤ n15)) with | true => (ke (.inl (u4.1, false))) | false => (if 0 ≤ u4.2 then (match u4.1[u4.2.toNat]? with | some c17 => (match (c17.drop 37)[0]? with | some x18 => (match x18 with | .v (.int q20 n19) => (if q20 = .i64 then (match (decide (n19 < 0)) with | true => (ke (.inl (u4.1, false))) | false => (if 0 ≤ u4.2 then (match u4.1[u4.2.toNat]? with | some c21 => (match (c21.drop 37)[0]? with | some x22 => (match x22 with | .v (.int q24 n23) => (if q24 = .i64 then (match (decide (n23 > 18014398509481984)) with | true => (ke (.inl (u4.1, false))) | false => (match zf9 N (u4.1, u4.2, 0) with | some y35 => (match y35 with | .inl z36 => (ke (.inl (z36.1, z36.2.1))) | .inr z37 => (kn (z37.1, (i64 (z37.2 + 1))))) | none => none)) else none) | _ => none) | none => none) | none => none) else none)) else none) | _ => none) | none => none) | none => none) else none)) else none) | _ => none) | none => none) | none => none) else none) else none) | _ => none) | none => none) | none => none) else none) | false => (if 0 ≤ u4.2 then (match u4.1[u4.2.toNat]? with | some c38 => (match (c38.drop 37)[0]? with | some x39 => (match x39 with | .v (.int q41 n40) => (if q41 = .i64 then (match (decide (n40 < 0)) with | true => (ke (.inl (u4.1, false))) | false => (if 0 ≤ u4.2 then (match u4.1[u4.2.toNat]? with | some c42 => (match (c42.drop 37)[0]? with | some x43 => (match x43 with | .v (.int q45 n44) => (if q45 = .i64 then (match (decide (n44 > 18014398509481984)) with | true => (ke (.inl (u4.1, false))) | false => (match zf9 N (u4.1, u4.2, 0) with | some y46 => (match y46 with | .inl z47 => (ke (.inl (z47.1, z47.2.1))) | .inr z48 => (kn (z48.1, (i64 (z48.2 + 1))))) | none => none)) else none) | _ => none) | none => none) | none => none) else none)) else none) | _ => none) | none => none) | none => none) else none))) else none) | _ => none) | none => none) | none => none) else none)) else none) | _ => none) | none => none) | none => none) else none) | false => (ke (.inr u4.1)))
noncomputable abbrev F72_d4 (N : Nat) (x : (List (List AV)) × Int) : Option (((List (List AV)) × Bool) ⊕ ((List (List AV)))) := (js N).L N x
noncomputable def zh1 (N : Nat) : FSpec where
  X := (List (List AV))
  Y := Bool
  ash := [[some 38]]
  bsh := []
  S := ⟨[[none]], [], [], [], []⟩
  bm := false
  pat := fun a b => rdA [.lst 38] [] a b fun ⟨a0, _⟩ _ => a0
  args := fun x => [(AV.list 38 x none)]
  bs := fun x => []
  ret := fun y => ⟨(AV.v (.bool y)), [], none, [], [], []⟩
  t := fun x α k => (match F72_d4 N (x, 0) with | some y49 => (match y49 with | .inl z50 => (k z50.2) | .inr z51 => (k (decide ((z51.length : Int) ≤ 200)))) | none => none)
noncomputable abbrev F72_d (N : Nat) (x : (List (List AV))) : Option (Bool) := (zh1 N).d x
noncomputable def za1 (N : Nat) : List (Nat × LSpec) := [(4, js N), (16, ZE N)]
noncomputable def zdR : Code := Try.f72.body.getD .skip
theorem zmK (N : Nat) : Par (ZE N).b := by
  intro x α β kn ke kn' ke' r r' h h1 h2
  revert h
  dsimp only [ZE]
  (repeat' (first | (with_reducible refine zf ?_ ?_) | (with_reducible refine zc ?_ ?_) | split)) <;> intro h <;> first | exact h1 _ h | exact h2 _ h | (cases h; done)
theorem ziH (N : Nat) : BdOk (zt Try.prog) (F72_g N) Z6 N (za1 N) 16 zdR (ZE N) := fun x α kn ke => by kernel_rfl
theorem zdm (N : Nat) : LpOk Try.prog Z6 N (za1 N) 16 (zd 16 zdR) :=
  zD (ze Try.prog) (zk _) zn Z6 N (za1 N) 16 zdR (l := []) (by kernel_rfl) (by kernel_rfl) an (ZE N) rfl (fun s x hc h => by dsimp only [ZE] at h; exact zH hc h (fun _ _ => rfl) rfl rfl) (fun _ => rfl) (ziH N) (zmK N)
theorem F72_par4 (N : Nat) : Par (js N).b := by
  intro x α β kn ke kn' ke' r r' h h1 h2
  revert h
  dsimp only [js]
  (repeat' (first | (with_reducible refine zf ?_ ?_) | (with_reducible refine zc ?_ ?_) | split)) <;> intro h <;> first | exact h1 _ h | exact h2 _ h | (cases h; done)
theorem zlr (N : Nat) : BdOk (zt Try.prog) (F72_g N) Z6 N (za1 N) 4 zdR (js N) := fun x α kn ke => by kernel_rfl
theorem zlb (N : Nat) : LpOk Try.prog Z6 N (za1 N) 4 (zd 4 zdR) :=
  zD (ze Try.prog) (zk _) zn Z6 N (za1 N) 4 zdR (l := [(16, zd 16 zdR)]) (by kernel_rfl) (by kernel_rfl) (al (zdm N) an) (js N) rfl (fun s x hc h => by dsimp only [js] at h; exact zH hc h (fun _ _ => rfl) rfl rfl) (fun _ => rfl) (zlr N) (F72_par4 N)
theorem F72_parF (N : Nat) : ParF (zh1 N).t := by
  intro x α β k k' r r' h h1
  revert h
  dsimp only [zh1]
  (repeat' (first | (with_reducible refine zf ?_ ?_) | (with_reducible refine zc ?_ ?_) | split)) <;> intro h <;> first | exact h1 _ h | (cases h; done)
theorem F72_text (N : Nat) : TxOk (zt Try.prog) (F72_g N) Z6 (lam N (za1 N)) Try.f72 (zh1 N) := fun x => by kernel_rfl
noncomputable def F72_e (N : Nat) : Ent Try.prog := zC (ze Try.prog) (zk _) zn 72 Try.f72 Try.func72 rfl Z6 (lam N (za1 N)) (zq (l := [(4, zd 4 zdR), (16, zd 16 zdR)]) (al (zlb N) (al (zdm N) an)) (by kernel_rfl)) (zh1 N) (fun _ => ⟨rfl, rfl⟩) (F72_text N) (fun _ _ _ h => zB h (fun _ _ => rfl) (fun _ _ => rfl)) (F72_parF N)
def F95_an : Nat → Keep × Keep := anL []
noncomputable def F95_g (N : Nat) : GamK := gam (P := Try.prog) []
noncomputable def zjP (N : Nat) : FSpec where
  X := ByteArray × ByteArray
  Y := Int
  ash := [[none], [none]]
  bsh := []
  S := ⟨[[none]], [], [], [], []⟩
  bm := false
  pat := fun a b => rdA [.str, .str] [] a b fun ⟨a0, a1, _⟩ _ => (a0, a1)
  args := fun x => [(AV.v (.string x.1)), (AV.v (.string x.2))]
  bs := fun x => []
  ret := fun y => ⟨(AV.v (.int .i64 y)), [], none, [], [], []⟩
  t := fun x α k => (match (Go.Op.bytesLess x.1.toList x.2.toList) with | true => (k (-1)) | false => (match (!((Go.Op.bytesLess x.1.toList x.2.toList) || (x.1.toList == x.2.toList))) with | true => (k 1) | false => (k 0)))
noncomputable abbrev F95_d (N : Nat) (x : ByteArray × ByteArray) : Option (Int) := (zjP N).d x
theorem F95_parF (N : Nat) : ParF (zjP N).t := by
  intro x α β k k' r r' h h1
  revert h
  dsimp only [zjP]
  (repeat' (first | (with_reducible refine zf ?_ ?_) | (with_reducible refine zc ?_ ?_) | split)) <;> intro h <;> first | exact h1 _ h | (cases h; done)
theorem F95_text (N : Nat) : TxOk (zt Try.prog) (F95_g N) F95_an (lam N []) Try.f95 (zjP N) := fun x => by kernel_rfl
noncomputable def F95_e (N : Nat) : Ent Try.prog := zC (ze Try.prog) (zk _) zn 95 Try.f95 Try.func95 rfl F95_an (lam N []) (zq (l := []) an (by kernel_rfl)) (zjP N) (fun _ => ⟨rfl, rfl⟩) (F95_text N) (fun _ _ _ h => zB h (fun _ _ => rfl) (fun _ _ => rfl)) (F95_parF N)
def JO : Nat → Keep × Keep := anL [(4, ⟨[27, 28], [], [], [], [], [], [], [], false⟩, ⟨[4], [], [], [], [], [], [], [], false⟩)]
noncomputable def F93_g (N : Nat) : GamK := gam (P := Try.prog) [F95_e N]
noncomputable def zb0 (N : Nat) : LSpec where
  X := RT4 × Int
  Y := (Int) ⊕ (Unit)
  p := fun s => rdS 35 0 [(27, .agg RK4), (28, .int .i64)] [] s fun ⟨a0, a1, _⟩ _ => (a0, a1)
  st := fun u4 => mkS 35 [(27, (AV.agg (Ren4 u4.1))), (28, (AV.v (.int .i64 u4.2)))] [] (JO 4).1.toks 0
  out := fun y => match y with
    | .inl y => (.ret, mkS 35 [(4, (AV.v (.int .i64 y)))] [] (JO 4).2.toks 0)
    | .inr y => (.exit 0, mkS 35 [] [] (JO 4).2.toks 0)
  sp := fun y α k => match y with
    | .inl y => k (.ret, mkS 35 [(4, (AV.v (.int .i64 y)))] [] (JO 4).2.toks 0)
    | .inr y => k (.exit 0, mkS 35 [] [] (JO 4).2.toks 0)
  spe := fun y α k => by rcases y with _ | _ <;> rfl
  b := fun u4 α kn ke => (match (decide (u4.2 < 4)) with | true => (if 0 ≤ u4.2 ∧ u4.2 < 4 then (match [(AV.v (.int .i64 u4.1.1)), (AV.v (.int .i64 u4.1.2.1)), (AV.v (.int .i64 u4.1.2.2.1)), (AV.v (.int .i64 u4.1.2.2.2.1))][(u4.2.toNat * 1)]? with | some x5 => (match x5 with | .v (.int q7 n6) => (if q7 = .i64 then (match (n6 != 0) with | true => (ke (.inl n6)) | false => (kn (u4.1, (i64 (u4.2 + 1))))) else none) | _ => none) | none => none) else none) | false => (ke (.inr ())))
noncomputable abbrev F93_d4 (N : Nat) (x : RT4 × Int) : Option ((Int) ⊕ (Unit)) := (zb0 N).L N x
noncomputable def zj8 (N : Nat) : FSpec where
  X := RT2 × RT2
  Y := Int
  ash := [[none, none, none, none], [none, none, none, none]]
  bsh := []
  S := ⟨[[none]], [], [], [], []⟩
  bm := false
  pat := fun a b => rdA [.agg RK2, .agg RK2] [] a b fun ⟨a0, a1, _⟩ _ => (a0, a1)
  args := fun x => [(AV.agg (Ren2 x.1)), (AV.agg (Ren2 x.2))]
  bs := fun x => []
  ret := fun y => ⟨(AV.v (.int .i64 y)), [], none, [], [], []⟩
  t := fun x α k => (match F95_d N (x.1.1, x.2.1) with | some y1 => (match F95_d N (x.1.2.1, x.2.2.1) with | some y2 => (match F95_d N (x.1.2.2.1, x.2.2.2.1) with | some y3 => (match F95_d N (x.1.2.2.2.1, x.2.2.2.2.1) with | some y4 => (match F93_d4 N ((y1, y2, y3, y4, ()), 0) with | some y8 => (match y8 with | .inl z9 => (k z9) | .inr z10 => (k 0)) | none => none) | none => none) | none => none) | none => none) | none => none)
noncomputable abbrev F93_d (N : Nat) (x : RT2 × RT2) : Option (Int) := (zj8 N).d x
noncomputable def zeM (N : Nat) : List (Nat × LSpec) := [(4, zb0 N)]
noncomputable def F93_c : Code := Try.f93.body.getD .skip
theorem F93_par4 (N : Nat) : Par (zb0 N).b := by
  intro x α β kn ke kn' ke' r r' h h1 h2
  revert h
  dsimp only [zb0]
  (repeat' (first | (with_reducible refine zf ?_ ?_) | (with_reducible refine zc ?_ ?_) | split)) <;> intro h <;> first | exact h1 _ h | exact h2 _ h | (cases h; done)
theorem zj4 (N : Nat) : BdOk (zt Try.prog) (F93_g N) JO N (zeM N) 4 F93_c (zb0 N) := fun x α kn ke => by kernel_rfl
theorem zlD (N : Nat) : LpOk Try.prog JO N (zeM N) 4 (zd 4 F93_c) :=
  zD (ze Try.prog) (zk _) zn JO N (zeM N) 4 F93_c (l := []) (by kernel_rfl) (by kernel_rfl) an (zb0 N) rfl (fun s x hc h => by dsimp only [zb0] at h; exact zH hc h (fun _ _ => rfl) rfl rfl) (fun _ => rfl) (zj4 N) (F93_par4 N)
theorem F93_parF (N : Nat) : ParF (zj8 N).t := by
  intro x α β k k' r r' h h1
  revert h
  dsimp only [zj8]
  (repeat' (first | (with_reducible refine zf ?_ ?_) | (with_reducible refine zc ?_ ?_) | split)) <;> intro h <;> first | exact h1 _ h | (cases h; done)
theorem F93_text (N : Nat) : TxOk (zt Try.prog) (F93_g N) JO (lam N (zeM N)) Try.f93 (zj8 N) := fun x => by kernel_rfl
noncomputable def F93_e (N : Nat) : Ent Try.prog := zC (ze Try.prog) (zk _) zn 93 Try.f93 Try.func93 rfl JO (lam N (zeM N)) (zq (l := [(4, zd 4 F93_c)]) (al (zlD N) an) (by kernel_rfl)) (zj8 N) (fun _ => ⟨rfl, rfl⟩) (F93_text N) (fun _ _ _ h => zB h (fun _ _ => rfl) (fun _ _ => rfl)) (F93_parF N)
abbrev RK7 : List Ck := [.int .i64, .int .i64, .int .i64, .int .i64, .int .i64, .int .i64, .int .i64, .int .i64, .int .i64, .int .i64]
abbrev RT7 : Type := Int × Int × Int × Int × Int × Int × Int × Int × Int × Int × Unit
def Ren7 (e : RT7) : List AV := enc RK7 e
def JP : Nat → Keep × Keep := anL [(9, ⟨[41, 42], [], [], [], [], [], [], [], false⟩, ⟨[4], [], [], [], [], [], [], [], false⟩)]
noncomputable def F91_g (N : Nat) : GamK := gam (P := Try.prog) [F93_e N]
noncomputable def zcq (N : Nat) : LSpec where
  X := RT7 × Int
  Y := (Int) ⊕ (Unit)
  p := fun s => rdS 56 0 [(41, .agg RK7), (42, .int .i64)] [] s fun ⟨a0, a1, _⟩ _ => (a0, a1)
  st := fun u9 => mkS 56 [(41, (AV.agg (Ren7 u9.1))), (42, (AV.v (.int .i64 u9.2)))] [] (JP 9).1.toks 0
  out := fun y => match y with
    | .inl y => (.ret, mkS 56 [(4, (AV.v (.int .i64 y)))] [] (JP 9).2.toks 0)
    | .inr y => (.exit 0, mkS 56 [] [] (JP 9).2.toks 0)
  sp := fun y α k => match y with
    | .inl y => k (.ret, mkS 56 [(4, (AV.v (.int .i64 y)))] [] (JP 9).2.toks 0)
    | .inr y => k (.exit 0, mkS 56 [] [] (JP 9).2.toks 0)
  spe := fun y α k => by rcases y with _ | _ <;> rfl
  b := fun u9 α kn ke => (match (decide (u9.2 < 5)) with | true => (if 0 ≤ u9.2 ∧ u9.2 < 5 then (match ([(AV.v (.int .i64 u9.1.1)), (AV.v (.int .i64 u9.1.2.1)), (AV.v (.int .i64 u9.1.2.2.1)), (AV.v (.int .i64 u9.1.2.2.2.1)), (AV.v (.int .i64 u9.1.2.2.2.2.1)), (AV.v (.int .i64 u9.1.2.2.2.2.2.1)), (AV.v (.int .i64 u9.1.2.2.2.2.2.2.1)), (AV.v (.int .i64 u9.1.2.2.2.2.2.2.2.1)), (AV.v (.int .i64 u9.1.2.2.2.2.2.2.2.2.1)), (AV.v (.int .i64 u9.1.2.2.2.2.2.2.2.2.2.1))].drop (u9.2.toNat * 2)) with | x2 :: r3 => (match x2 with | .v (.int q5 n4) => (if q5 = .i64 then (match r3 with | x6 :: r7 => (match x6 with | .v (.int q9 n8) => (if q9 = .i64 then (match (decide (n4 < n8)) with | true => (ke (.inl (-1))) | false => (match (decide (n4 > n8)) with | true => (ke (.inl 1)) | false => (kn (u9.1, (i64 (u9.2 + 1)))))) else none) | _ => none) | [] => none) else none) | _ => none) | [] => none) else none) | false => (ke (.inr ())))
noncomputable abbrev F91_d9 (N : Nat) (x : RT7 × Int) : Option ((Int) ⊕ (Unit)) := (zcq N).L N x
noncomputable def zkV (N : Nat) : FSpec where
  X := RT1 × RT1
  Y := Int
  ash := [[none, none, none, none, none, none, none, none, none], [none, none, none, none, none, none, none, none, none]]
  bsh := []
  S := ⟨[[none]], [], [], [], []⟩
  bm := false
  pat := fun a b => rdA [.agg RK1, .agg RK1] [] a b fun ⟨a0, a1, _⟩ _ => (a0, a1)
  args := fun x => [(AV.agg (Ren1 x.1)), (AV.agg (Ren1 x.2))]
  bs := fun x => []
  ret := fun y => ⟨(AV.v (.int .i64 y)), [], none, [], [], []⟩
  t := fun x α k => (match F93_d N ((zdI x.1), (zdI x.2)) with | some y1 => (match (y1 != 0) with | true => (k y1) | false => (match F91_d9 N ((x.1.2.2.2.2.1, x.2.2.2.2.2.1, x.1.2.2.2.2.2.1, x.2.2.2.2.2.2.1, x.1.2.2.2.2.2.2.1, x.2.2.2.2.2.2.2.1, x.1.2.2.2.2.2.2.2.1, x.2.2.2.2.2.2.2.2.1, x.1.2.2.2.2.2.2.2.2.1, x.2.2.2.2.2.2.2.2.2.1, ()), 0) with | some y10 => (match y10 with | .inl z11 => (k z11) | .inr z12 => (k 0)) | none => none)) | none => none)
noncomputable abbrev F91_d (N : Nat) (x : RT1 × RT1) : Option (Int) := (zkV N).d x
noncomputable def zfl (N : Nat) : List (Nat × LSpec) := [(9, zcq N)]
noncomputable def F91_c : Code := Try.f91.body.getD .skip
theorem F91_par9 (N : Nat) : Par (zcq N).b := by
  intro x α β kn ke kn' ke' r r' h h1 h2
  revert h
  dsimp only [zcq]
  (repeat' (first | (with_reducible refine zf ?_ ?_) | (with_reducible refine zc ?_ ?_) | split)) <;> intro h <;> first | exact h1 _ h | exact h2 _ h | (cases h; done)
theorem zlz (N : Nat) : BdOk (zt Try.prog) (F91_g N) JP N (zfl N) 9 F91_c (zcq N) := fun x α kn ke => by kernel_rfl
theorem zl6 (N : Nat) : LpOk Try.prog JP N (zfl N) 9 (zd 9 F91_c) :=
  zD (ze Try.prog) (zk _) zn JP N (zfl N) 9 F91_c (l := []) (by kernel_rfl) (by kernel_rfl) an (zcq N) rfl (fun s x hc h => by dsimp only [zcq] at h; exact zH hc h (fun _ _ => rfl) rfl rfl) (fun _ => rfl) (zlz N) (F91_par9 N)
theorem F91_parF (N : Nat) : ParF (zkV N).t := by
  intro x α β k k' r r' h h1
  revert h
  dsimp only [zkV]
  (repeat' (first | (with_reducible refine zf ?_ ?_) | (with_reducible refine zc ?_ ?_) | split)) <;> intro h <;> first | exact h1 _ h | (cases h; done)
theorem F91_text (N : Nat) : TxOk (zt Try.prog) (F91_g N) JP (lam N (zfl N)) Try.f91 (zkV N) := fun x => by kernel_rfl
noncomputable def F91_e (N : Nat) : Ent Try.prog := zC (ze Try.prog) (zk _) zn 91 Try.f91 Try.func91 rfl JP (lam N (zfl N)) (zq (l := [(9, zd 9 F91_c)]) (al (zl6 N) an) (by kernel_rfl)) (zkV N) (fun _ => ⟨rfl, rfl⟩) (F91_text N) (fun _ _ _ h => zB h (fun _ _ => rfl) (fun _ _ => rfl)) (F91_parF N)
def F85_an : Nat → Keep × Keep := anL []
noncomputable def F85_g (N : Nat) : GamK := gam (P := Try.prog) [F91_e N]
noncomputable def zmb (N : Nat) : FSpec where
  X := RT1 × RT1
  Y := Int
  ash := [[none, none, none, none, none, none, none, none, none], [none, none, none, none, none, none, none, none, none]]
  bsh := []
  S := ⟨[[none]], [], [], [], []⟩
  bm := false
  pat := fun a b => rdA [.agg RK1, .agg RK1] [] a b fun ⟨a0, a1, _⟩ _ => (a0, a1)
  args := fun x => [(AV.agg (Ren1 x.1)), (AV.agg (Ren1 x.2))]
  bs := fun x => []
  ret := fun y => ⟨(AV.v (.int .i64 y)), [], none, [], [], []⟩
  t := fun x α k => (match (decide (x.1.2.2.2.2.1 < x.2.2.2.2.2.1)) with | true => (k (-1)) | false => (match (decide (x.1.2.2.2.2.1 > x.2.2.2.2.2.1)) with | true => (k 1) | false => (match F91_d N x with | some y1 => (k y1) | none => none)))
noncomputable abbrev F85_d (N : Nat) (x : RT1 × RT1) : Option (Int) := (zmb N).d x
theorem F85_parF (N : Nat) : ParF (zmb N).t := by
  intro x α β k k' r r' h h1
  revert h
  dsimp only [zmb]
  (repeat' (first | (with_reducible refine zf ?_ ?_) | (with_reducible refine zc ?_ ?_) | split)) <;> intro h <;> first | exact h1 _ h | (cases h; done)
theorem F85_text (N : Nat) : TxOk (zt Try.prog) (F85_g N) F85_an (lam N []) Try.f85 (zmb N) := fun x => by kernel_rfl
noncomputable def F85_e (N : Nat) : Ent Try.prog := zC (ze Try.prog) (zk _) zn 85 Try.f85 Try.func85 rfl F85_an (lam N []) (zq (l := []) an (by kernel_rfl)) (zmb N) (fun _ => ⟨rfl, rfl⟩) (F85_text N) (fun _ _ _ h => zB h (fun _ _ => rfl) (fun _ _ => rfl)) (F85_parF N)
def za0 : Nat → Keep × Keep := anL [(5, ⟨[2, 3, 4], [], [2, 3], [(0, 9)], [], [], [], [], false⟩, ⟨[2, 3], [], [2, 3], [], [], [], [], [], false⟩)]
noncomputable def F83_g (N : Nat) : GamK := gam (P := Try.prog) [F85_e N]
noncomputable def zbH (N : Nat) : LSpec where
  X := (List (List AV)) × Int × RT1 × RT1
  Y := (RT1 × RT1)
  p := fun s => rdS 26 0 [(0, .lst 9), (2, .ptr 2 0), (3, .ptr 3 0), (4, .int .i64)] [(2, .row RK1), (3, .row RK1)] s fun ⟨a0, _, _, a1, _⟩ ⟨a2, a3, _⟩ => (a0, a1, a2, a3)
  st := fun u5 => mkS 26 [(0, (AV.list 9 u5.1 none)), (2, (AV.ptr 2 0)), (3, (AV.ptr 3 0)), (4, (AV.v (.int .i64 u5.2.1)))] [(2, (Ren1 u5.2.2.1)), (3, (Ren1 u5.2.2.2))] (za0 5).1.toks 0
  out := fun y => (.exit 0, mkS 26 [(2, (AV.ptr 2 0)), (3, (AV.ptr 3 0))] [(2, (Ren1 y.1)), (3, (Ren1 y.2))] (za0 5).2.toks 0)
  sp := fun y α k => k (.exit 0, mkS 26 [(2, (AV.ptr 2 0)), (3, (AV.ptr 3 0))] [(2, (Ren1 y.1)), (3, (Ren1 y.2))] (za0 5).2.toks 0)
  spe := fun y α k => rfl
  b := fun u5 α kn ke => (match (decide (u5.2.1 < (u5.1.length : Int))) with | true => (if 0 ≤ u5.2.1 then (match u5.1[u5.2.1.toNat]? with | some c8 => (match Rrd1 c8 with | some e9 => (match F85_d N (e9, u5.2.2.2) with | some y10 => (match (decide (y10 < 0)) with | true => (if 0 ≤ u5.2.1 then (match u5.1[u5.2.1.toNat]? with | some c11 => (match Rrd1 c11 with | some e12 => (kn (u5.1, (i64 (u5.2.1 + 1)), u5.2.2.1, e12)) | none => none) | none => none) else none) | false => (kn (u5.1, (i64 (u5.2.1 + 1)), u5.2.2))) | none => none) | none => none) | none => none) else none) | false => (ke u5.2.2))
noncomputable abbrev F83_d5 (N : Nat) (x : (List (List AV)) × Int × RT1 × RT1) : Option ((RT1 × RT1)) := (zbH N).L N x
noncomputable def zkK (N : Nat) : FSpec where
  X := (List (List AV))
  Y := RT1
  ash := [[some 9]]
  bsh := []
  S := ⟨[[none, none, none, none, none, none, none, none, none]], [], [], [], []⟩
  bm := false
  pat := fun a b => rdA [.lst 9] [] a b fun ⟨a0, _⟩ _ => a0
  args := fun x => [(AV.list 9 x none)]
  bs := fun x => []
  ret := fun y => ⟨(AV.agg (Ren1 y)), [], none, [], [], []⟩
  t := fun x α k => (if 0 ≤ (0 : Int) then (match x[(0 : Int).toNat]? with | some c1 => (match Rrd1 c1 with | some e2 => (match F83_d5 N (x, 1, ((⟨#[]⟩ : ByteArray), (⟨#[]⟩ : ByteArray), (⟨#[]⟩ : ByteArray), (⟨#[]⟩ : ByteArray), 0, 0, 0, 0, 0, ()), e2) with | some y13 => (k y13.2) | none => none) | none => none) | none => none) else none)
noncomputable abbrev F83_d (N : Nat) (x : (List (List AV))) : Option (RT1) := (zkK N).d x
noncomputable def zfh (N : Nat) : List (Nat × LSpec) := [(5, zbH N)]
noncomputable def F83_c : Code := Try.f83.body.getD .skip
theorem F83_par5 (N : Nat) : Par (zbH N).b := by
  intro x α β kn ke kn' ke' r r' h h1 h2
  revert h
  dsimp only [zbH]
  (repeat' (first | (with_reducible refine zf ?_ ?_) | (with_reducible refine zc ?_ ?_) | split)) <;> intro h <;> first | exact h1 _ h | exact h2 _ h | (cases h; done)
theorem zmH (N : Nat) : BdOk (zt Try.prog) (F83_g N) za0 N (zfh N) 5 F83_c (zbH N) := fun x α kn ke => by kernel_rfl
theorem zjG (N : Nat) : LpOk Try.prog za0 N (zfh N) 5 (zd 5 F83_c) :=
  zD (ze Try.prog) (zk _) zn za0 N (zfh N) 5 F83_c (l := []) (by kernel_rfl) (by kernel_rfl) an (zbH N) rfl (fun s x hc h => by dsimp only [zbH] at h; exact zH hc h (fun _ _ => rfl) rfl rfl) (fun _ => rfl) (zmH N) (F83_par5 N)
theorem F83_parF (N : Nat) : ParF (zkK N).t := by
  intro x α β k k' r r' h h1
  revert h
  dsimp only [zkK]
  (repeat' (first | (with_reducible refine zf ?_ ?_) | (with_reducible refine zc ?_ ?_) | split)) <;> intro h <;> first | exact h1 _ h | (cases h; done)
theorem F83_text (N : Nat) : TxOk (zt Try.prog) (F83_g N) za0 (lam N (zfh N)) Try.f83 (zkK N) := fun x => by kernel_rfl
noncomputable def F83_e (N : Nat) : Ent Try.prog := zC (ze Try.prog) (zk _) zn 83 Try.f83 Try.func83 rfl za0 (lam N (zfh N)) (zq (l := [(5, zd 5 F83_c)]) (al (zjG N) an) (by kernel_rfl)) (zkK N) (fun _ => ⟨rfl, rfl⟩) (F83_text N) (fun _ _ _ h => zB h (fun _ _ => rfl) (fun _ _ => rfl)) (F83_parF N)
def jM : Nat → Keep × Keep := anF [(5, ⟨[4], [], [], [(0, 9)], [], [(3, 9)], [], [], false⟩, ⟨[], [], [], [], [], [(3, 9)], [], [], false⟩), (14, ⟨[3, 4, 5], [], [1000003], [(0, 9)], [], [], [], [1000003], false⟩, ⟨[3, 4, 5], [], [1000003], [(0, 9)], [], [], [], [1000003], false⟩)] [(100012, ([3], []))]
noncomputable def F84_g (N : Nat) : GamK := gam (P := Try.prog) [F91_e N]
noncomputable def JY (N : Nat) : LSpec where
  X := (List (List AV)) × Nat × Int × Int × (List AV)
  Y := ((List (List AV)) × Nat × Int × Int × (List AV))
  p := fun s => rdS 68 0 [(0, .lst 9), (3, .vs0 1000003 9), (4, .int .i64), (5, .int .i64)] [(1000003, .tt)] s fun ⟨a0, a1, a2, a3, _⟩ ⟨a4, _⟩ => (a0, a1, a2, a3, a4)
  st := fun u14 => mkS 68 [(0, (AV.list 9 u14.1 none)), (3, (AV.vs 1000003 0 u14.2.1 9)), (4, (AV.v (.int .i64 u14.2.2.1))), (5, (AV.v (.int .i64 u14.2.2.2.1)))] [(1000003, u14.2.2.2.2)] (jM 14).1.toks 0
  out := fun y => (.exit 2, mkS 68 [(0, (AV.list 9 y.1 none)), (3, (AV.vs 1000003 0 y.2.1 9)), (4, (AV.v (.int .i64 y.2.2.1))), (5, (AV.v (.int .i64 y.2.2.2.1)))] [(1000003, y.2.2.2.2)] (jM 14).2.toks 0)
  sp := fun y α k => k (.exit 2, mkS 68 [(0, (AV.list 9 y.1 none)), (3, (AV.vs 1000003 0 y.2.1 9)), (4, (AV.v (.int .i64 y.2.2.1))), (5, (AV.v (.int .i64 y.2.2.2.1)))] [(1000003, y.2.2.2.2)] (jM 14).2.toks 0)
  spe := fun y α k => rfl
  b := fun u14 α kn ke => (match (decide (u14.2.2.2.1 > 0)) with | true => (if 0 ≤ (i64 (u14.2.2.2.1 - 1)) ∧ (i64 (u14.2.2.2.1 - 1)) < (u14.2.1 : Int) then (match Rrd1 (u14.2.2.2.2.drop ((0 + (i64 (u14.2.2.2.1 - 1)).toNat) * 9)) with | some e5 => (if 0 ≤ u14.2.2.1 then (match u14.1[u14.2.2.1.toNat]? with | some c6 => (match Rrd1 c6 with | some e7 => (match F91_d N (e5, e7) with | some y8 => (match (decide (y8 > 0)) with | true => (kn (u14.1, u14.2.1, u14.2.2.1, (i64 (u14.2.2.2.1 - 1)), (u14.2.2.2.2.map dat0))) | false => (ke (u14.1, u14.2.1, u14.2.2.1, u14.2.2.2.1, (u14.2.2.2.2.map dat0)))) | none => none) | none => none) | none => none) else none) | none => none) else none) | false => (ke (u14.1, u14.2.1, u14.2.2.1, u14.2.2.2.1, (u14.2.2.2.2.map dat0))))
noncomputable abbrev F84_d14 (N : Nat) (x : (List (List AV)) × Nat × Int × Int × (List AV)) : Option (((List (List AV)) × Nat × Int × Int × (List AV))) := (JY N).L N x
noncomputable def zb8 (N : Nat) : LSpec where
  X := Nat × (List (List AV)) × Int × (List AV)
  Y := (Nat × (List AV))
  p := fun s => rdS 68 0 [(3, .vs0 1000003 9), (0, .lst 9), (4, .int .i64)] [(1000003, .tt)] s fun ⟨a0, a1, a2, _⟩ ⟨a3, _⟩ => (a0, a1, a2, a3)
  st := fun u5 => mkS 68 [(3, (AV.vs 1000003 0 u5.1 9)), (0, (AV.list 9 u5.2.1 none)), (4, (AV.v (.int .i64 u5.2.2.1)))] [(1000003, u5.2.2.2)] (jM 5).1.toks 0
  out := fun y => (.exit 0, mkS 68 [(3, (AV.vs 1000003 0 y.1 9))] [(1000003, y.2)] (jM 5).2.toks 0)
  sp := fun y α k => k (.exit 0, mkS 68 [(3, (AV.vs 1000003 0 y.1 9))] [(1000003, y.2)] (jM 5).2.toks 0)
  spe := fun y α k => rfl
  b := fun u5 α kn ke => (match (decide (u5.2.2.1 < (u5.2.1.length : Int))) with | true => (match F84_d14 N (u5.2.1, u5.1, u5.2.2.1, ((u5.1 : Nat) : Int), (u5.2.2.2.map dat0)) with | some y9 => (match (decide (y9.2.2.2.1 > 0)) with | true => (if 0 ≤ (i64 (y9.2.2.2.1 - 1)) ∧ (i64 (y9.2.2.2.1 - 1)) < (y9.2.1 : Int) then (match Rrd1 (y9.2.2.2.2.drop ((0 + (i64 (y9.2.2.2.1 - 1)).toNat) * 9)) with | some e10 => (if 0 ≤ y9.2.2.1 then (match y9.1[y9.2.2.1.toNat]? with | some c11 => (match Rrd1 c11 with | some e12 => (match (((e10.1 == e12.1) && ((e10.2.1 == e12.2.1) && ((e10.2.2.1 == e12.2.2.1) && ((e10.2.2.2.1 == e12.2.2.2.1) && true)))) && ((e10.2.2.2.2.1 == e12.2.2.2.2.1) && ((e10.2.2.2.2.2.1 == e12.2.2.2.2.2.1) && ((e10.2.2.2.2.2.2.1 == e12.2.2.2.2.2.2.1) && ((e10.2.2.2.2.2.2.2.1 == e12.2.2.2.2.2.2.2.1) && ((e10.2.2.2.2.2.2.2.2.1 == e12.2.2.2.2.2.2.2.2.1) && true)))))) with | true => (kn (y9.2.1, y9.1, (i64 (y9.2.2.1 + 1)), (y9.2.2.2.2.map dat0))) | false => (if 0 ≤ y9.2.2.1 then (match y9.1[y9.2.2.1.toNat]? with | some c13 => (match Rrd1 c13 with | some e14 => (if y9.2.1 * 9 ≤ y9.2.2.2.2.length ∧ (y9.2.1 + [(Ren1 e14)].length) * 104 ≤ zl then (if 0 ≤ (i64 (y9.2.2.2.1 + 1)) ∧ (i64 (y9.2.2.2.1 + 1)) ≤ (((y9.2.1 + [(Ren1 e14)].length) : Nat) : Int) then (if 0 ≤ y9.2.2.2.1 ∧ y9.2.2.2.1 ≤ (((y9.2.1 + [(Ren1 e14)].length) : Nat) : Int) then (if ((0 + y9.2.2.2.1.toNat) + ((y9.2.1 + [(Ren1 e14)].length) - y9.2.2.2.1.toNat)) * 9 ≤ (y9.2.2.2.2.take (y9.2.1 * 9) ++ [(Ren1 e14)].flatten).length then (if ((0 + (i64 (y9.2.2.2.1 + 1)).toNat) + ((y9.2.1 + [(Ren1 e14)].length) - (i64 (y9.2.2.2.1 + 1)).toNat)) * 9 ≤ (y9.2.2.2.2.take (y9.2.1 * 9) ++ [(Ren1 e14)].flatten).length then (if 0 ≤ y9.2.2.1 then (match y9.1[y9.2.2.1.toNat]? with | some c15 => (match Rrd1 c15 with | some e16 => (if 0 ≤ y9.2.2.2.1 ∧ y9.2.2.2.1 < (((y9.2.1 + [(Ren1 e14)].length) : Nat) : Int) then (if ((0 + y9.2.2.2.1.toNat) * 9) + 9 ≤ (splice (y9.2.2.2.2.take (y9.2.1 * 9) ++ [(Ren1 e14)].flatten) ((0 + (i64 (y9.2.2.2.1 + 1)).toNat) * 9) (((y9.2.2.2.2.take (y9.2.1 * 9) ++ [(Ren1 e14)].flatten).drop ((0 + y9.2.2.2.1.toNat) * 9)).take ((Nat.min ((y9.2.1 + [(Ren1 e14)].length) - y9.2.2.2.1.toNat) ((y9.2.1 + [(Ren1 e14)].length) - (i64 (y9.2.2.2.1 + 1)).toNat)) * 9))).length then (kn ((y9.2.1 + [(Ren1 e14)].length), y9.1, (i64 (y9.2.2.1 + 1)), ((splice (splice (y9.2.2.2.2.take (y9.2.1 * 9) ++ [(Ren1 e14)].flatten) ((0 + (i64 (y9.2.2.2.1 + 1)).toNat) * 9) (((y9.2.2.2.2.take (y9.2.1 * 9) ++ [(Ren1 e14)].flatten).drop ((0 + y9.2.2.2.1.toNat) * 9)).take ((Nat.min ((y9.2.1 + [(Ren1 e14)].length) - y9.2.2.2.1.toNat) ((y9.2.1 + [(Ren1 e14)].length) - (i64 (y9.2.2.2.1 + 1)).toNat)) * 9))) ((0 + y9.2.2.2.1.toNat) * 9) (Ren1 e16)).map dat0))) else none) else none) | none => none) | none => none) else none) else none) else none) else none) else none) else none) | none => none) | none => none) else none)) | none => none) | none => none) else none) | none => none) else none) | false => (if 0 ≤ y9.2.2.1 then (match y9.1[y9.2.2.1.toNat]? with | some c17 => (match Rrd1 c17 with | some e18 => (if y9.2.1 * 9 ≤ y9.2.2.2.2.length ∧ (y9.2.1 + [(Ren1 e18)].length) * 104 ≤ zl then (if 0 ≤ (i64 (y9.2.2.2.1 + 1)) ∧ (i64 (y9.2.2.2.1 + 1)) ≤ (((y9.2.1 + [(Ren1 e18)].length) : Nat) : Int) then (if 0 ≤ y9.2.2.2.1 ∧ y9.2.2.2.1 ≤ (((y9.2.1 + [(Ren1 e18)].length) : Nat) : Int) then (if ((0 + y9.2.2.2.1.toNat) + ((y9.2.1 + [(Ren1 e18)].length) - y9.2.2.2.1.toNat)) * 9 ≤ (y9.2.2.2.2.take (y9.2.1 * 9) ++ [(Ren1 e18)].flatten).length then (if ((0 + (i64 (y9.2.2.2.1 + 1)).toNat) + ((y9.2.1 + [(Ren1 e18)].length) - (i64 (y9.2.2.2.1 + 1)).toNat)) * 9 ≤ (y9.2.2.2.2.take (y9.2.1 * 9) ++ [(Ren1 e18)].flatten).length then (if 0 ≤ y9.2.2.1 then (match y9.1[y9.2.2.1.toNat]? with | some c19 => (match Rrd1 c19 with | some e20 => (if 0 ≤ y9.2.2.2.1 ∧ y9.2.2.2.1 < (((y9.2.1 + [(Ren1 e18)].length) : Nat) : Int) then (if ((0 + y9.2.2.2.1.toNat) * 9) + 9 ≤ (splice (y9.2.2.2.2.take (y9.2.1 * 9) ++ [(Ren1 e18)].flatten) ((0 + (i64 (y9.2.2.2.1 + 1)).toNat) * 9) (((y9.2.2.2.2.take (y9.2.1 * 9) ++ [(Ren1 e18)].flatten).drop ((0 + y9.2.2.2.1.toNat) * 9)).take ((Nat.min ((y9.2.1 + [(Ren1 e18)].length) - y9.2.2.2.1.toNat) ((y9.2.1 + [(Ren1 e18)].length) - (i64 (y9.2.2.2.1 + 1)).toNat)) * 9))).length then (kn ((y9.2.1 + [(Ren1 e18)].length), y9.1, (i64 (y9.2.2.1 + 1)), ((splice (splice (y9.2.2.2.2.take (y9.2.1 * 9) ++ [(Ren1 e18)].flatten) ((0 + (i64 (y9.2.2.2.1 + 1)).toNat) * 9) (((y9.2.2.2.2.take (y9.2.1 * 9) ++ [(Ren1 e18)].flatten).drop ((0 + y9.2.2.2.1.toNat) * 9)).take ((Nat.min ((y9.2.1 + [(Ren1 e18)].length) - y9.2.2.2.1.toNat) ((y9.2.1 + [(Ren1 e18)].length) - (i64 (y9.2.2.2.1 + 1)).toNat)) * 9))) ((0 + y9.2.2.2.1.toNat) * 9) (Ren1 e20)).map dat0))) else none) else none) | none => none) | none => none) else none) else none) else none) else none) else none) else none) | none => none) | none => none) else none)) | none => none) | false => (ke (u5.1, (u5.2.2.2.map dat0))))
noncomputable abbrev F84_d5 (N : Nat) (x : Nat × (List (List AV)) × Int × (List AV)) : Option ((Nat × (List AV))) := (zb8 N).L N x
noncomputable def zlt (N : Nat) : FSpec where
  X := (List (List AV))
  Y := (List (List AV))
  ash := [[some 9]]
  bsh := []
  S := ⟨[[some 2000009]], [], [], [], []⟩
  bm := false
  pat := fun a b => rdA [.lst 9] [] a b fun ⟨a0, _⟩ _ => a0
  args := fun x => [(AV.list 9 x none)]
  bs := fun x => []
  ret := fun y => ⟨(AV.list 9 y (some 2560000000)), [], none, [], [2560000000], []⟩
  t := fun x α k => (match F84_d5 N (0, x, 0, ([] : List AV)) with | some y21 => (if y21.1 * 9 ≤ y21.2.length then (k (zO (y21.2.take (y21.1 * 9)) 9 y21.1)) else none) | none => none)
noncomputable abbrev F84_d (N : Nat) (x : (List (List AV))) : Option ((List (List AV))) := (zlt N).d x
noncomputable def zaM (N : Nat) : List (Nat × LSpec) := [(5, zb8 N), (14, JY N)]
noncomputable def zej : Code := Try.f84.body.getD .skip
theorem zkD (N : Nat) : Par (JY N).b := by
  intro x α β kn ke kn' ke' r r' h h1 h2
  revert h
  dsimp only [JY]
  (repeat' (first | (with_reducible refine zf ?_ ?_) | (with_reducible refine zc ?_ ?_) | split)) <;> intro h <;> first | exact h1 _ h | exact h2 _ h | (cases h; done)
theorem zhv (N : Nat) : BdOk (tabB Try.prog [51]) (F84_g N) jM N (zaM N) 14 zej (JY N) := fun x α kn ke => by kernel_rfl
theorem zde (N : Nat) : LpOk Try.prog jM N (zaM N) 14 (zd 14 zej) :=
  zD (zM Try.prog [51]) (zk _) zn jM N (zaM N) 14 zej (l := []) (by kernel_rfl) (by kernel_rfl) an (JY N) rfl (fun s x hc h => by dsimp only [JY] at h; exact zH hc h (fun _ _ => rfl) rfl rfl) (fun _ => rfl) (zhv N) (zkD N)
theorem F84_par5 (N : Nat) : Par (zb8 N).b := by
  intro x α β kn ke kn' ke' r r' h h1 h2
  revert h
  dsimp only [zb8]
  (repeat' (first | (with_reducible refine zf ?_ ?_) | (with_reducible refine zc ?_ ?_) | split)) <;> intro h <;> first | exact h1 _ h | exact h2 _ h | (cases h; done)
theorem zmw (N : Nat) : BdOk (tabB Try.prog [51]) (F84_g N) jM N (zaM N) 5 zej (zb8 N) := fun x α kn ke => by kernel_rfl
theorem zmO (N : Nat) : LpOk Try.prog jM N (zaM N) 5 (zd 5 zej) :=
  zD (zM Try.prog [51]) (zk _) zn jM N (zaM N) 5 zej (l := [(14, zd 14 zej)]) (by kernel_rfl) (by kernel_rfl) (al (zde N) an) (zb8 N) rfl (fun s x hc h => by dsimp only [zb8] at h; exact zH hc h (fun _ _ => rfl) rfl rfl) (fun _ => rfl) (zmw N) (F84_par5 N)
theorem F84_parF (N : Nat) : ParF (zlt N).t := by
  intro x α β k k' r r' h h1
  revert h
  dsimp only [zlt]
  (repeat' (first | (with_reducible refine zf ?_ ?_) | (with_reducible refine zc ?_ ?_) | split)) <;> intro h <;> first | exact h1 _ h | (cases h; done)
theorem F84_text (N : Nat) : TxOk (tabB Try.prog [51]) (F84_g N) jM (lam N (zaM N)) Try.f84 (zlt N) := fun x => by kernel_rfl
noncomputable def F84_e (N : Nat) : Ent Try.prog := zC (zM Try.prog [51]) (zk _) zn 84 Try.f84 Try.func84 rfl jM (lam N (zaM N)) (zq (l := [(5, zd 5 zej), (14, zd 14 zej)]) (al (zmO N) (al (zde N) an)) (by kernel_rfl)) (zlt N) (fun _ => ⟨rfl, rfl⟩) (F84_text N) (fun _ _ _ h => zB h (fun _ _ => rfl) (fun _ _ => rfl)) (F84_parF N)
def JT : Nat → Keep × Keep := anL [(8, ⟨[5], [], [], [(0, 9), (1, 9)], [], [], [], [], false⟩, ⟨[4], [], [], [], [], [], [], [], false⟩)]
noncomputable def F64_g (N : Nat) : GamK := gam (P := Try.prog) []
noncomputable def jz (N : Nat) : LSpec where
  X := (List (List AV)) × (List (List AV)) × Int
  Y := (Bool) ⊕ (Unit)
  p := fun s => rdS 26 0 [(0, .lst 9), (1, .lst 9), (5, .int .i64)] [] s fun ⟨a0, a1, a2, _⟩ _ => (a0, a1, a2)
  st := fun u8 => mkS 26 [(0, (AV.list 9 u8.1 none)), (1, (AV.list 9 u8.2.1 none)), (5, (AV.v (.int .i64 u8.2.2)))] [] (JT 8).1.toks 0
  out := fun y => match y with
    | .inl y => (.ret, mkS 26 [(4, (AV.v (.bool y)))] [] (JT 8).2.toks 0)
    | .inr y => (.exit 0, mkS 26 [] [] (JT 8).2.toks 0)
  sp := fun y α k => match y with
    | .inl y => k (.ret, mkS 26 [(4, (AV.v (.bool y)))] [] (JT 8).2.toks 0)
    | .inr y => k (.exit 0, mkS 26 [] [] (JT 8).2.toks 0)
  spe := fun y α k => by rcases y with _ | _ <;> rfl
  b := fun u8 α kn ke => (match (decide (u8.2.2 < (u8.1.length : Int))) with | true => (if 0 ≤ u8.2.2 then (match u8.1[u8.2.2.toNat]? with | some c1 => (match Rrd1 c1 with | some e2 => (if 0 ≤ u8.2.2 then (match u8.2.1[u8.2.2.toNat]? with | some c3 => (match Rrd1 c3 with | some e4 => (match (!(((e2.1 == e4.1) && ((e2.2.1 == e4.2.1) && ((e2.2.2.1 == e4.2.2.1) && ((e2.2.2.2.1 == e4.2.2.2.1) && true)))) && ((e2.2.2.2.2.1 == e4.2.2.2.2.1) && ((e2.2.2.2.2.2.1 == e4.2.2.2.2.2.1) && ((e2.2.2.2.2.2.2.1 == e4.2.2.2.2.2.2.1) && ((e2.2.2.2.2.2.2.2.1 == e4.2.2.2.2.2.2.2.1) && ((e2.2.2.2.2.2.2.2.2.1 == e4.2.2.2.2.2.2.2.2.1) && true))))))) with | true => (ke (.inl false)) | false => (kn (u8.1, u8.2.1, (i64 (u8.2.2 + 1))))) | none => none) | none => none) else none) | none => none) | none => none) else none) | false => (ke (.inr ())))
noncomputable abbrev F64_d8 (N : Nat) (x : (List (List AV)) × (List (List AV)) × Int) : Option ((Bool) ⊕ (Unit)) := (jz N).L N x
noncomputable def zhL (N : Nat) : FSpec where
  X := (List (List AV)) × (List (List AV))
  Y := Bool
  ash := [[some 9], [some 9]]
  bsh := []
  S := ⟨[[none]], [], [], [], []⟩
  bm := false
  pat := fun a b => rdA [.lst 9, .lst 9] [] a b fun ⟨a0, a1, _⟩ _ => (a0, a1)
  args := fun x => [(AV.list 9 x.1 none), (AV.list 9 x.2 none)]
  bs := fun x => []
  ret := fun y => ⟨(AV.v (.bool y)), [], none, [], [], []⟩
  t := fun x α k => (match ((x.1.length : Int) != (x.2.length : Int)) with | true => (k false) | false => (match F64_d8 N (x.1, x.2, 0) with | some y5 => (match y5 with | .inl z6 => (k z6) | .inr z7 => (k true)) | none => none))
noncomputable abbrev zkc (N : Nat) (x : (List (List AV)) × (List (List AV))) : Option (Bool) := (zhL N).d x
noncomputable def zfc (N : Nat) : List (Nat × LSpec) := [(8, jz N)]
noncomputable def F64_c : Code := Try.f64.body.getD .skip
theorem F64_par8 (N : Nat) : Par (jz N).b := by
  intro x α β kn ke kn' ke' r r' h h1 h2
  revert h
  dsimp only [jz]
  (repeat' (first | (with_reducible refine zf ?_ ?_) | (with_reducible refine zc ?_ ?_) | split)) <;> intro h <;> first | exact h1 _ h | exact h2 _ h | (cases h; done)
theorem zmd (N : Nat) : BdOk (zt Try.prog) (F64_g N) JT N (zfc N) 8 F64_c (jz N) := fun x α kn ke => by kernel_rfl
theorem zlw (N : Nat) : LpOk Try.prog JT N (zfc N) 8 (zd 8 F64_c) :=
  zD (ze Try.prog) (zk _) zn JT N (zfc N) 8 F64_c (l := []) (by kernel_rfl) (by kernel_rfl) an (jz N) rfl (fun s x hc h => by dsimp only [jz] at h; exact zH hc h (fun _ _ => rfl) rfl rfl) (fun _ => rfl) (zmd N) (F64_par8 N)
theorem F64_parF (N : Nat) : ParF (zhL N).t := by
  intro x α β k k' r r' h h1
  revert h
  dsimp only [zhL]
  (repeat' (first | (with_reducible refine zf ?_ ?_) | (with_reducible refine zc ?_ ?_) | split)) <;> intro h <;> first | exact h1 _ h | (cases h; done)
theorem F64_text (N : Nat) : TxOk (zt Try.prog) (F64_g N) JT (lam N (zfc N)) Try.f64 (zhL N) := fun x => by kernel_rfl
noncomputable def F64_e (N : Nat) : Ent Try.prog := zC (ze Try.prog) (zk _) zn 64 Try.f64 Try.func64 rfl JT (lam N (zfc N)) (zq (l := [(8, zd 8 F64_c)]) (al (zlw N) an) (by kernel_rfl)) (zhL N) (fun _ => ⟨rfl, rfl⟩) (F64_text N) (fun _ _ _ h => zB h (fun _ _ => rfl) (fun _ _ => rfl)) (F64_parF N)
def Z3 : Nat → Keep × Keep := anL [(4, ⟨[5], [], [], [(0, 9), (1, 9)], [], [], [], [], false⟩, ⟨[4], [], [], [], [], [], [], [], false⟩), (12, ⟨[5, 6], [], [], [(0, 9), (1, 9)], [], [], [], [], false⟩, ⟨[4, 5], [], [], [(0, 9), (1, 9)], [], [], [], [], false⟩)]
noncomputable def F86_g (N : Nat) : GamK := gam (P := Try.prog) []
noncomputable def Zl (N : Nat) : LSpec where
  X := (List (List AV)) × (List (List AV)) × Int × Int
  Y := ((List (List AV)) × (List (List AV)) × Bool × Int) ⊕ ((List (List AV)) × (List (List AV)) × Int)
  p := fun s => rdS 28 0 [(0, .lst 9), (1, .lst 9), (5, .int .i64), (6, .int .i64)] [] s fun ⟨a0, a1, a2, a3, _⟩ _ => (a0, a1, a2, a3)
  st := fun u12 => mkS 28 [(0, (AV.list 9 u12.1 none)), (1, (AV.list 9 u12.2.1 none)), (5, (AV.v (.int .i64 u12.2.2.1))), (6, (AV.v (.int .i64 u12.2.2.2)))] [] (Z3 12).1.toks 0
  out := fun y => match y with
    | .inl y => (.ret, mkS 28 [(0, (AV.list 9 y.1 none)), (1, (AV.list 9 y.2.1 none)), (4, (AV.v (.bool y.2.2.1))), (5, (AV.v (.int .i64 y.2.2.2)))] [] (Z3 12).2.toks 0)
    | .inr y => (.exit 2, mkS 28 [(0, (AV.list 9 y.1 none)), (1, (AV.list 9 y.2.1 none)), (5, (AV.v (.int .i64 y.2.2)))] [] (Z3 12).2.toks 0)
  sp := fun y α k => match y with
    | .inl y => k (.ret, mkS 28 [(0, (AV.list 9 y.1 none)), (1, (AV.list 9 y.2.1 none)), (4, (AV.v (.bool y.2.2.1))), (5, (AV.v (.int .i64 y.2.2.2)))] [] (Z3 12).2.toks 0)
    | .inr y => k (.exit 2, mkS 28 [(0, (AV.list 9 y.1 none)), (1, (AV.list 9 y.2.1 none)), (5, (AV.v (.int .i64 y.2.2)))] [] (Z3 12).2.toks 0)
  spe := fun y α k => by rcases y with _ | _ <;> rfl
  b := fun u12 α kn ke => (match (decide (u12.2.2.2 < (u12.2.1.length : Int))) with | true => (if 0 ≤ u12.2.2.1 then (match u12.1[u12.2.2.1.toNat]? with | some c1 => (match Rrd1 c1 with | some e2 => (if 0 ≤ u12.2.2.2 then (match u12.2.1[u12.2.2.2.toNat]? with | some c3 => (match Rrd1 c3 with | some e4 => (match (((e2.1 == e4.1) && ((e2.2.1 == e4.2.1) && ((e2.2.2.1 == e4.2.2.1) && ((e2.2.2.2.1 == e4.2.2.2.1) && true)))) && ((e2.2.2.2.2.1 == e4.2.2.2.2.1) && ((e2.2.2.2.2.2.1 == e4.2.2.2.2.2.1) && ((e2.2.2.2.2.2.2.1 == e4.2.2.2.2.2.2.1) && ((e2.2.2.2.2.2.2.2.1 == e4.2.2.2.2.2.2.2.1) && ((e2.2.2.2.2.2.2.2.2.1 == e4.2.2.2.2.2.2.2.2.1) && true)))))) with | true => (ke (.inl (u12.1, u12.2.1, true, u12.2.2.1))) | false => (kn (u12.1, u12.2.1, u12.2.2.1, (i64 (u12.2.2.2 + 1))))) | none => none) | none => none) else none) | none => none) | none => none) else none) | false => (ke (.inr (u12.1, u12.2.1, u12.2.2.1))))
noncomputable abbrev zgl (N : Nat) (x : (List (List AV)) × (List (List AV)) × Int × Int) : Option (((List (List AV)) × (List (List AV)) × Bool × Int) ⊕ ((List (List AV)) × (List (List AV)) × Int)) := (Zl N).L N x
noncomputable def ZX (N : Nat) : LSpec where
  X := (List (List AV)) × (List (List AV)) × Int
  Y := (Bool) ⊕ (Unit)
  p := fun s => rdS 28 0 [(0, .lst 9), (1, .lst 9), (5, .int .i64)] [] s fun ⟨a0, a1, a2, _⟩ _ => (a0, a1, a2)
  st := fun u4 => mkS 28 [(0, (AV.list 9 u4.1 none)), (1, (AV.list 9 u4.2.1 none)), (5, (AV.v (.int .i64 u4.2.2)))] [] (Z3 4).1.toks 0
  out := fun y => match y with
    | .inl y => (.ret, mkS 28 [(4, (AV.v (.bool y)))] [] (Z3 4).2.toks 0)
    | .inr y => (.exit 0, mkS 28 [] [] (Z3 4).2.toks 0)
  sp := fun y α k => match y with
    | .inl y => k (.ret, mkS 28 [(4, (AV.v (.bool y)))] [] (Z3 4).2.toks 0)
    | .inr y => k (.exit 0, mkS 28 [] [] (Z3 4).2.toks 0)
  spe := fun y α k => by rcases y with _ | _ <;> rfl
  b := fun u4 α kn ke => (match (decide (u4.2.2 < (u4.1.length : Int))) with | true => (match zgl N (u4.1, u4.2.1, u4.2.2, 0) with | some y5 => (match y5 with | .inl z6 => (ke (.inl z6.2.2.1)) | .inr z7 => (kn (z7.1, z7.2.1, (i64 (z7.2.2 + 1))))) | none => none) | false => (ke (.inr ())))
noncomputable abbrev F86_d4 (N : Nat) (x : (List (List AV)) × (List (List AV)) × Int) : Option ((Bool) ⊕ (Unit)) := (ZX N).L N x
noncomputable def ziG (N : Nat) : FSpec where
  X := (List (List AV)) × (List (List AV))
  Y := Bool
  ash := [[some 9], [some 9]]
  bsh := []
  S := ⟨[[none]], [], [], [], []⟩
  bm := false
  pat := fun a b => rdA [.lst 9, .lst 9] [] a b fun ⟨a0, a1, _⟩ _ => (a0, a1)
  args := fun x => [(AV.list 9 x.1 none), (AV.list 9 x.2 none)]
  bs := fun x => []
  ret := fun y => ⟨(AV.v (.bool y)), [], none, [], [], []⟩
  t := fun x α k => (match F86_d4 N (x.1, x.2, 0) with | some y8 => (match y8 with | .inl z9 => (k z9) | .inr z10 => (k false)) | none => none)
noncomputable abbrev F86_d (N : Nat) (x : (List (List AV)) × (List (List AV))) : Option (Bool) := (ziG N).d x
noncomputable def za6 (N : Nat) : List (Nat × LSpec) := [(4, ZX N), (12, Zl N)]
noncomputable def zd9 : Code := Try.f86.body.getD .skip
theorem zk2 (N : Nat) : Par (Zl N).b := by
  intro x α β kn ke kn' ke' r r' h h1 h2
  revert h
  dsimp only [Zl]
  (repeat' (first | (with_reducible refine zf ?_ ?_) | (with_reducible refine zc ?_ ?_) | split)) <;> intro h <;> first | exact h1 _ h | exact h2 _ h | (cases h; done)
theorem zhU (N : Nat) : BdOk (zt Try.prog) (F86_g N) Z3 N (za6 N) 12 zd9 (Zl N) := fun x α kn ke => by kernel_rfl
theorem zcV (N : Nat) : LpOk Try.prog Z3 N (za6 N) 12 (zd 12 zd9) :=
  zD (ze Try.prog) (zk _) zn Z3 N (za6 N) 12 zd9 (l := []) (by kernel_rfl) (by kernel_rfl) an (Zl N) rfl (fun s x hc h => by dsimp only [Zl] at h; exact zH hc h (fun _ _ => rfl) rfl rfl) (fun _ => rfl) (zhU N) (zk2 N)
theorem F86_par4 (N : Nat) : Par (ZX N).b := by
  intro x α β kn ke kn' ke' r r' h h1 h2
  revert h
  dsimp only [ZX]
  (repeat' (first | (with_reducible refine zf ?_ ?_) | (with_reducible refine zc ?_ ?_) | split)) <;> intro h <;> first | exact h1 _ h | exact h2 _ h | (cases h; done)
theorem zlU (N : Nat) : BdOk (zt Try.prog) (F86_g N) Z3 N (za6 N) 4 zd9 (ZX N) := fun x α kn ke => by kernel_rfl
theorem zkr (N : Nat) : LpOk Try.prog Z3 N (za6 N) 4 (zd 4 zd9) :=
  zD (ze Try.prog) (zk _) zn Z3 N (za6 N) 4 zd9 (l := [(12, zd 12 zd9)]) (by kernel_rfl) (by kernel_rfl) (al (zcV N) an) (ZX N) rfl (fun s x hc h => by dsimp only [ZX] at h; exact zH hc h (fun _ _ => rfl) rfl rfl) (fun _ => rfl) (zlU N) (F86_par4 N)
theorem F86_parF (N : Nat) : ParF (ziG N).t := by
  intro x α β k k' r r' h h1
  revert h
  dsimp only [ziG]
  (repeat' (first | (with_reducible refine zf ?_ ?_) | (with_reducible refine zc ?_ ?_) | split)) <;> intro h <;> first | exact h1 _ h | (cases h; done)
theorem F86_text (N : Nat) : TxOk (zt Try.prog) (F86_g N) Z3 (lam N (za6 N)) Try.f86 (ziG N) := fun x => by kernel_rfl
noncomputable def F86_e (N : Nat) : Ent Try.prog := zC (ze Try.prog) (zk _) zn 86 Try.f86 Try.func86 rfl Z3 (lam N (za6 N)) (zq (l := [(4, zd 4 zd9), (12, zd 12 zd9)]) (al (zkr N) (al (zcV N) an)) (by kernel_rfl)) (ziG N) (fun _ => ⟨rfl, rfl⟩) (F86_text N) (fun _ _ _ h => zB h (fun _ _ => rfl) (fun _ _ => rfl)) (F86_parF N)
def Z7 : Nat → Keep × Keep := anL [(4, ⟨[3], [], [], [(0, 25)], [], [], [], [], false⟩, ⟨[2], [], [], [], [], [], [], [], false⟩), (17, ⟨[3, 5], [], [], [(0, 25), (4, 9)], [], [], [], [], false⟩, ⟨[2, 3], [], [], [(0, 25)], [], [], [], [], false⟩)]
noncomputable def F73_g (N : Nat) : GamK := gam (P := Try.prog) [F83_e N, F84_e N, F64_e N, F85_e N, F86_e N]
noncomputable def ZA (N : Nat) : LSpec where
  X := (List (List AV)) × (List (List AV)) × Int × Int
  Y := ((List (List AV)) × Bool × Int) ⊕ ((List (List AV)) × Int)
  p := fun s => rdS 70 0 [(0, .lst 25), (4, .lst 9), (3, .int .i64), (5, .int .i64)] [] s fun ⟨a0, a1, a2, a3, _⟩ _ => (a0, a1, a2, a3)
  st := fun u17 => mkS 70 [(0, (AV.list 25 u17.1 none)), (4, (AV.list 9 u17.2.1 none)), (3, (AV.v (.int .i64 u17.2.2.1))), (5, (AV.v (.int .i64 u17.2.2.2)))] [] (Z7 17).1.toks 0
  out := fun y => match y with
    | .inl y => (.ret, mkS 70 [(0, (AV.list 25 y.1 none)), (2, (AV.v (.bool y.2.1))), (3, (AV.v (.int .i64 y.2.2)))] [] (Z7 17).2.toks 0)
    | .inr y => (.exit 2, mkS 70 [(0, (AV.list 25 y.1 none)), (3, (AV.v (.int .i64 y.2)))] [] (Z7 17).2.toks 0)
  sp := fun y α k => match y with
    | .inl y => k (.ret, mkS 70 [(0, (AV.list 25 y.1 none)), (2, (AV.v (.bool y.2.1))), (3, (AV.v (.int .i64 y.2.2)))] [] (Z7 17).2.toks 0)
    | .inr y => k (.exit 2, mkS 70 [(0, (AV.list 25 y.1 none)), (3, (AV.v (.int .i64 y.2)))] [] (Z7 17).2.toks 0)
  spe := fun y α k => by rcases y with _ | _ <;> rfl
  b := fun u17 α kn ke => (match (decide (u17.2.2.2 < u17.2.2.1)) with | true => (if 0 ≤ u17.2.2.2 then (match u17.1[u17.2.2.2.toNat]? with | some c14 => (match ((c14.drop 9).drop 0)[0]? with | some x15 => (match zbB 9 x15 with | some l16 => (match F86_d N (u17.2.1, l16) with | some y17 => (match y17 with | true => (ke (.inl (u17.1, false, u17.2.2.1))) | false => (kn (u17.1, u17.2.1, u17.2.2.1, (i64 (u17.2.2.2 + 1))))) | none => none) | none => none) | none => none) | none => none) else none) | false => (ke (.inr (u17.1, u17.2.2.1))))
noncomputable abbrev zd8 (N : Nat) (x : (List (List AV)) × (List (List AV)) × Int × Int) : Option (((List (List AV)) × Bool × Int) ⊕ ((List (List AV)) × Int)) := (ZA N).L N x
noncomputable def jx (N : Nat) : LSpec where
  X := (List (List AV)) × Int
  Y := (Bool) ⊕ (Unit)
  p := fun s => rdS 70 0 [(0, .lst 25), (3, .int .i64)] [] s fun ⟨a0, a1, _⟩ _ => (a0, a1)
  st := fun u4 => mkS 70 [(0, (AV.list 25 u4.1 none)), (3, (AV.v (.int .i64 u4.2)))] [] (Z7 4).1.toks 0
  out := fun y => match y with
    | .inl y => (.ret, mkS 70 [(2, (AV.v (.bool y)))] [] (Z7 4).2.toks 0)
    | .inr y => (.exit 0, mkS 70 [] [] (Z7 4).2.toks 0)
  sp := fun y α k => match y with
    | .inl y => k (.ret, mkS 70 [(2, (AV.v (.bool y)))] [] (Z7 4).2.toks 0)
    | .inr y => k (.exit 0, mkS 70 [] [] (Z7 4).2.toks 0)
  spe := fun y α k => by rcases y with _ | _ <;> rfl
  b := fun u4 α kn ke => (match (decide (u4.2 < (u4.1.length : Int))) with | true => (if 0 ≤ u4.2 then (match u4.1[u4.2.toNat]? with | some c1 => (match ((c1.drop 9).drop 0)[0]? with | some x2 => (match zbB 9 x2 with | some l3 => (match ((l3.length : Int) == 0) with | true => (ke (.inl false)) | false => (if 0 ≤ u4.2 then (match u4.1[u4.2.toNat]? with | some c4 => (match Rrd1 (c4.drop 0) with | some e5 => (match F83_d N l3 with | some y6 => (match (!(((e5.1 == y6.1) && ((e5.2.1 == y6.2.1) && ((e5.2.2.1 == y6.2.2.1) && ((e5.2.2.2.1 == y6.2.2.2.1) && true)))) && ((e5.2.2.2.2.1 == y6.2.2.2.2.1) && ((e5.2.2.2.2.2.1 == y6.2.2.2.2.2.1) && ((e5.2.2.2.2.2.2.1 == y6.2.2.2.2.2.2.1) && ((e5.2.2.2.2.2.2.2.1 == y6.2.2.2.2.2.2.2.1) && ((e5.2.2.2.2.2.2.2.2.1 == y6.2.2.2.2.2.2.2.2.1) && true))))))) with | true => (ke (.inl false)) | false => (match F84_d N l3 with | some y7 => (match zkc N (l3, y7) with | some y8 => (match (!y8) with | true => (ke (.inl false)) | false => (match (decide (u4.2 > 0)) with | true => (if 0 ≤ (i64 (u4.2 - 1)) then (match u4.1[(i64 (u4.2 - 1)).toNat]? with | some c9 => (match Rrd1 (c9.drop 0) with | some e10 => (if 0 ≤ u4.2 then (match u4.1[u4.2.toNat]? with | some c11 => (match Rrd1 (c11.drop 0) with | some e12 => (match F85_d N (e10, e12) with | some y13 => (match (decide (y13 ≥ 0)) with | true => (ke (.inl false)) | false => (match zd8 N (u4.1, l3, u4.2, 0) with | some y18 => (match y18 with | .inl z19 => (ke (.inl z19.2.1)) | .inr z20 => (kn (z20.1, (i64 (z20.2 + 1))))) | none => none)) | none => none) | none => none) | none => none) else none) | none => none) | none => none) else none) | false => (match zd8 N (u4.1, l3, u4.2, 0) with | some y21 => (match y21 with | .inl z22 => (ke (.inl z22.2.1)) | .inr z23 => (kn (z23.1, (i64 (z23.2 + 1))))) | none => none))) | none => none) | none => none)) | none => none) | none => none) | none => none) else none)) | none => none) | none => none) | none => none) else none) | false => (ke (.inr ())))
noncomputable abbrev F73_d4 (N : Nat) (x : (List (List AV)) × Int) : Option ((Bool) ⊕ (Unit)) := (jx N).L N x
noncomputable def ziD (N : Nat) : FSpec where
  X := (List (List AV))
  Y := Bool
  ash := [[some 25]]
  bsh := []
  S := ⟨[[none]], [], [], [], []⟩
  bm := false
  pat := fun a b => rdA [.lst 25] [] a b fun ⟨a0, _⟩ _ => a0
  args := fun x => [(AV.list 25 x none)]
  bs := fun x => []
  ret := fun y => ⟨(AV.v (.bool y)), [], none, [], [], []⟩
  t := fun x α k => (match F73_d4 N (x, 0) with | some y24 => (match y24 with | .inl z25 => (k z25) | .inr z26 => (k true)) | none => none)
noncomputable abbrev F73_d (N : Nat) (x : (List (List AV))) : Option (Bool) := (ziD N).d x
noncomputable def zaR (N : Nat) : List (Nat × LSpec) := [(4, jx N), (17, ZA N)]
noncomputable def zdS : Code := Try.f73.body.getD .skip
theorem zky (N : Nat) : Par (ZA N).b := by
  intro x α β kn ke kn' ke' r r' h h1 h2
  revert h
  dsimp only [ZA]
  (repeat' (first | (with_reducible refine zf ?_ ?_) | (with_reducible refine zc ?_ ?_) | split)) <;> intro h <;> first | exact h1 _ h | exact h2 _ h | (cases h; done)
theorem zi9 (N : Nat) : BdOk (zt Try.prog) (F73_g N) Z7 N (zaR N) 17 zdS (ZA N) := fun x α kn ke => by kernel_rfl
theorem zc9 (N : Nat) : LpOk Try.prog Z7 N (zaR N) 17 (zd 17 zdS) :=
  zD (ze Try.prog) (zk _) zn Z7 N (zaR N) 17 zdS (l := []) (by kernel_rfl) (by kernel_rfl) an (ZA N) rfl (fun s x hc h => by dsimp only [ZA] at h; exact zH hc h (fun _ _ => rfl) rfl rfl) (fun _ => rfl) (zi9 N) (zky N)
theorem F73_par4 (N : Nat) : Par (jx N).b := by
  intro x α β kn ke kn' ke' r r' h h1 h2
  revert h
  dsimp only [jx]
  (repeat' (first | (with_reducible refine zf ?_ ?_) | (with_reducible refine zc ?_ ?_) | split)) <;> intro h <;> first | exact h1 _ h | exact h2 _ h | (cases h; done)
theorem zkg (N : Nat) : BdOk (zt Try.prog) (F73_g N) Z7 N (zaR N) 4 zdS (jx N) := fun x α kn ke => by kernel_rfl
theorem zjx (N : Nat) : LpOk Try.prog Z7 N (zaR N) 4 (zd 4 zdS) :=
  zD (ze Try.prog) (zk _) zn Z7 N (zaR N) 4 zdS (l := [(17, zd 17 zdS)]) (by kernel_rfl) (by kernel_rfl) (al (zc9 N) an) (jx N) rfl (fun s x hc h => by dsimp only [jx] at h; exact zH hc h (fun _ _ => rfl) rfl rfl) (fun _ => rfl) (zkg N) (F73_par4 N)
theorem F73_parF (N : Nat) : ParF (ziD N).t := by
  intro x α β k k' r r' h h1
  revert h
  dsimp only [ziD]
  (repeat' (first | (with_reducible refine zf ?_ ?_) | (with_reducible refine zc ?_ ?_) | split)) <;> intro h <;> first | exact h1 _ h | (cases h; done)
theorem F73_text (N : Nat) : TxOk (zt Try.prog) (F73_g N) Z7 (lam N (zaR N)) Try.f73 (ziD N) := fun x => by kernel_rfl
noncomputable def F73_e (N : Nat) : Ent Try.prog := zC (ze Try.prog) (zk _) zn 73 Try.f73 Try.func73 rfl Z7 (lam N (zaR N)) (zq (l := [(4, zd 4 zdS), (17, zd 17 zdS)]) (al (zjx N) (al (zc9 N) an)) (by kernel_rfl)) (ziD N) (fun _ => ⟨rfl, rfl⟩) (F73_text N) (fun _ _ _ h => zB h (fun _ _ => rfl) (fun _ _ => rfl)) (F73_parF N)
def JJ : Nat → Keep × Keep := anL [(16, ⟨[4, 11], [], [], [(1, 38)], [], [], [], [], false⟩, ⟨[10], [], [], [], [], [], [], [], false⟩)]
noncomputable def F55_g (N : Nat) : GamK := gam (P := Try.prog) [F33_e N, F72_e N, F73_e N]
noncomputable def ZC (N : Nat) : LSpec where
  X := (List (List AV)) × Int × Int
  Y := (Int) ⊕ (Unit)
  p := fun s => rdS 62 0 [(1, .lst 38), (4, .int .i64), (11, .int .i64)] [] s fun ⟨a0, a1, a2, _⟩ _ => (a0, a1, a2)
  st := fun u16 => mkS 62 [(1, (AV.list 38 u16.1 none)), (4, (AV.v (.int .i64 u16.2.1))), (11, (AV.v (.int .i64 u16.2.2)))] [] (JJ 16).1.toks 0
  out := fun y => match y with
    | .inl y => (.ret, mkS 62 [(10, (AV.v (.int .i64 y)))] [] (JJ 16).2.toks 0)
    | .inr y => (.exit 0, mkS 62 [] [] (JJ 16).2.toks 0)
  sp := fun y α k => match y with
    | .inl y => k (.ret, mkS 62 [(10, (AV.v (.int .i64 y)))] [] (JJ 16).2.toks 0)
    | .inr y => k (.exit 0, mkS 62 [] [] (JJ 16).2.toks 0)
  spe := fun y α k => by rcases y with _ | _ <;> rfl
  b := fun u16 α kn ke => (match (decide (u16.2.2 < (u16.1.length : Int))) with | true => (if 0 ≤ u16.2.2 then (match u16.1[u16.2.2.toNat]? with | some c8 => (match (c8.drop 37)[0]? with | some x9 => (match x9 with | .v (.int q11 n10) => (if q11 = .i64 then (match (decide (u16.2.1 < n10)) with | true => (ke (.inl 9)) | false => (kn (u16.1, u16.2.1, (i64 (u16.2.2 + 1))))) else none) | _ => none) | none => none) | none => none) else none) | false => (ke (.inr ())))
noncomputable abbrev zfW (N : Nat) (x : (List (List AV)) × Int × Int) : Option ((Int) ⊕ (Unit)) := (ZC N).L N x
noncomputable def zct (N : Nat) : FSpec where
  X := (List (List AV)) × Int × Int × (List (List AV)) × Int × (List (List AV)) × Int
  Y := Int
  ash := [[some 4, none, none], [some 38], [none], [some 25], [none]]
  bsh := []
  S := ⟨[[none]], [], [], [], []⟩
  bm := false
  pat := fun a b => zj a fun v1 c2 => Z2 v1 fun c3 => zj c3 fun c4 c5 => pLst 4 c4 fun a0 => zj c5 fun c6 c7 => pInt .i64 c6 fun a1 => zj c7 fun c8 c9 => pInt .i64 c8 fun a2 => pEnd c9 <| zj c2 fun v10 c11 => pLst 38 v10 fun a3 => zj c11 fun v12 c13 => pInt .i64 v12 fun a4 => zj c13 fun v14 c15 => pLst 25 v14 fun a5 => zj c15 fun v16 c17 => pInt .i64 v16 fun a6 => pEnd c17 <| pEnd b <| some (a0, a1, a2, a3, a4, a5, a6)
  args := fun x => [(AV.agg [(AV.list 4 x.1 none), (AV.v (.int .i64 x.2.1)), (AV.v (.int .i64 x.2.2.1))]), (AV.list 38 x.2.2.2.1 none), (AV.v (.int .i64 x.2.2.2.2.1)), (AV.list 25 x.2.2.2.2.2.1 none), (AV.v (.int .i64 x.2.2.2.2.2.2))]
  bs := fun x => []
  ret := fun y => ⟨(AV.v (.int .i64 y)), [], none, [], [], []⟩
  t := fun x α k => (match zjm N (x.1, x.2.1, x.2.2.1) with | some y1 => (match (y1 != 0) with | true => (k 27) | false => (match F72_d N x.2.2.2.1 with | some y2 => (match (!y2) with | true => (k 1) | false => (match F73_d N x.2.2.2.2.2.1 with | some y3 => (match (!y3) with | true => (k 1) | false => (match (decide (x.2.2.2.2.1 < 0)) with | true => (k 1) | false => (match (decide ((x.2.2.2.1.length : Int) > 0)) with | true => (if 0 ≤ (i64 ((x.2.2.2.1.length : Int) - 1)) then (match x.2.2.2.1[(i64 ((x.2.2.2.1.length : Int) - 1)).toNat]? with | some c4 => (match (c4.drop 0)[0]? with | some x5 => (match x5 with | .v (.int q7 n6) => (if q7 = .i64 then (match (decide (x.2.2.2.2.1 ≤ n6)) with | true => (k 1) | false => (match (decide (x.2.2.2.2.2.2 < 0)) with | true => (k 2) | false => (match (decide (x.2.2.2.2.2.2 > 18014398509481984)) with | true => (k 2) | false => (match zfW N (x.2.2.2.1, x.2.2.2.2.2.2, 0) with | some y12 => (match y12 with | .inl z13 => (k z13) | .inr z14 => (k 0)) | none => none)))) else none) | _ => none) | none => none) | none => none) else none) | false => (match (decide (x.2.2.2.2.2.2 < 0)) with | true => (k 2) | false => (match (decide (x.2.2.2.2.2.2 > 18014398509481984)) with | true => (k 2) | false => (match zfW N (x.2.2.2.1, x.2.2.2.2.2.2, 0) with | some y15 => (match y15 with | .inl z16 => (k z16) | .inr z17 => (k 0)) | none => none)))))) | none => none)) | none => none)) | none => none)
noncomputable abbrev F55_d (N : Nat) (x : (List (List AV)) × Int × Int × (List (List AV)) × Int × (List (List AV)) × Int) : Option (Int) := (zct N).d x
noncomputable def zfw (N : Nat) : List (Nat × LSpec) := [(16, ZC N)]
noncomputable def F55_c : Code := Try.f55.body.getD .skip
theorem zjY (N : Nat) : Par (ZC N).b := by
  intro x α β kn ke kn' ke' r r' h h1 h2
  revert h
  dsimp only [ZC]
  (repeat' (first | (with_reducible refine zf ?_ ?_) | (with_reducible refine zc ?_ ?_) | split)) <;> intro h <;> first | exact h1 _ h | exact h2 _ h | (cases h; done)
theorem zik (N : Nat) : BdOk (zt Try.prog) (F55_g N) JJ N (zfw N) 16 F55_c (ZC N) := fun x α kn ke => by kernel_rfl
theorem zio (N : Nat) : LpOk Try.prog JJ N (zfw N) 16 (zd 16 F55_c) :=
  zD (ze Try.prog) (zk _) zn JJ N (zfw N) 16 F55_c (l := []) (by kernel_rfl) (by kernel_rfl) an (ZC N) rfl (fun s x hc h => by dsimp only [ZC] at h; exact zH hc h (fun _ _ => rfl) rfl rfl) (fun _ => rfl) (zik N) (zjY N)
theorem F55_parF (N : Nat) : ParF (zct N).t := by
  intro x α β k k' r r' h h1
  revert h
  dsimp only [zct]
  (repeat' (first | (with_reducible refine zf ?_ ?_) | (with_reducible refine zc ?_ ?_) | split)) <;> intro h <;> first | exact h1 _ h | (cases h; done)
theorem F55_text (N : Nat) : TxOk (zt Try.prog) (F55_g N) JJ (lam N (zfw N)) Try.f55 (zct N) := fun x => by kernel_rfl
theorem F55_pat (N : Nat) (a : List AV) (b : List (List AV)) (x : (zct N).X) (h : (zct N).pat a b = some x) : a = (zct N).args x ∧ b = (zct N).bs x := by
  obtain ⟨v1, c2, rfl, g0⟩ := zb (show zj _ _ = some x from h)
  obtain ⟨c3, rfl, g1⟩ := zJ g0; clear g0
  obtain ⟨c4, c5, rfl, g2⟩ := zb g1; clear g1
  obtain ⟨a0, rfl, g3⟩ := zy g2; clear g2
  obtain ⟨c6, c7, rfl, g4⟩ := zb g3; clear g3
  obtain ⟨a1, rfl, g5⟩ := zi g4; clear g4
  obtain ⟨c8, c9, rfl, g6⟩ := zb g5; clear g5
  obtain ⟨a2, rfl, g7⟩ := zi g6; clear g6
  obtain ⟨rfl, g8⟩ := zg g7; clear g7
  obtain ⟨v10, c11, rfl, g9⟩ := zb g8; clear g8
  obtain ⟨a3, rfl, g10⟩ := zy g9; clear g9
  obtain ⟨v12, c13, rfl, g11⟩ := zb g10; clear g10
  obtain ⟨a4, rfl, g12⟩ := zi g11; clear g11
  obtain ⟨v14, c15, rfl, g13⟩ := zb g12; clear g12
  obtain ⟨a5, rfl, g14⟩ := zy g13; clear g13
  obtain ⟨v16, c17, rfl, g15⟩ := zb g14; clear g14
  obtain ⟨a6, rfl, g16⟩ := zi g15; clear g15
  obtain ⟨rfl, g17⟩ := zg g16; clear g16
  obtain ⟨rfl, g18⟩ := zg g17; clear g17
  clear h
  cases g18
  exact ⟨rfl, rfl⟩
noncomputable def F55_e (N : Nat) : Ent Try.prog := zC (ze Try.prog) (zk _) zn 55 Try.f55 Try.func55 rfl JJ (lam N (zfw N)) (zq (l := [(16, zd 16 F55_c)]) (al (zio N) an) (by kernel_rfl)) (zct N) (fun _ => ⟨rfl, rfl⟩) (F55_text N) (F55_pat N) (F55_parF N)
def JI : Nat → Keep × Keep := anL [(4, ⟨[3, 5], [], [3], [(0, 25)], [], [], [], [], false⟩, ⟨[4], [], [], [], [], [], [], [], false⟩)]
noncomputable def F13_g (N : Nat) : GamK := gam (P := Try.prog) []
noncomputable def Z1 (N : Nat) : LSpec where
  X := (List (List AV)) × Int × RT1
  Y := (Int) ⊕ (Unit)
  p := fun s => rdS 20 0 [(0, .lst 25), (3, .ptr 3 0), (5, .int .i64)] [(3, .row RK1)] s fun ⟨a0, _, a1, _⟩ ⟨a2, _⟩ => (a0, a1, a2)
  st := fun u4 => mkS 20 [(0, (AV.list 25 u4.1 none)), (3, (AV.ptr 3 0)), (5, (AV.v (.int .i64 u4.2.1)))] [(3, (Ren1 u4.2.2))] (JI 4).1.toks 0
  out := fun y => match y with
    | .inl y => (.ret, mkS 20 [(4, (AV.v (.int .i64 y)))] [] (JI 4).2.toks 0)
    | .inr y => (.exit 0, mkS 20 [] [] (JI 4).2.toks 0)
  sp := fun y α k => match y with
    | .inl y => k (.ret, mkS 20 [(4, (AV.v (.int .i64 y)))] [] (JI 4).2.toks 0)
    | .inr y => k (.exit 0, mkS 20 [] [] (JI 4).2.toks 0)
  spe := fun y α k => by rcases y with _ | _ <;> rfl
  b := fun u4 α kn ke => (match (decide (u4.2.1 < (u4.1.length : Int))) with | true => (if 0 ≤ u4.2.1 then (match u4.1[u4.2.1.toNat]? with | some c1 => (match Rrd1 (c1.drop 0) with | some e2 => (match (((e2.1 == u4.2.2.1) && ((e2.2.1 == u4.2.2.2.1) && ((e2.2.2.1 == u4.2.2.2.2.1) && ((e2.2.2.2.1 == u4.2.2.2.2.2.1) && true)))) && ((e2.2.2.2.2.1 == u4.2.2.2.2.2.2.1) && ((e2.2.2.2.2.2.1 == u4.2.2.2.2.2.2.2.1) && ((e2.2.2.2.2.2.2.1 == u4.2.2.2.2.2.2.2.2.1) && ((e2.2.2.2.2.2.2.2.1 == u4.2.2.2.2.2.2.2.2.2.1) && ((e2.2.2.2.2.2.2.2.2.1 == u4.2.2.2.2.2.2.2.2.2.2.1) && true)))))) with | true => (ke (.inl u4.2.1)) | false => (kn (u4.1, (i64 (u4.2.1 + 1)), u4.2.2))) | none => none) | none => none) else none) | false => (ke (.inr ())))
noncomputable abbrev F13_d4 (N : Nat) (x : (List (List AV)) × Int × RT1) : Option ((Int) ⊕ (Unit)) := (Z1 N).L N x
noncomputable def zim (N : Nat) : FSpec where
  X := (List (List AV)) × RT1
  Y := Int
  ash := [[some 25], [none, none, none, none, none, none, none, none, none]]
  bsh := []
  S := ⟨[[none]], [], [], [], []⟩
  bm := false
  pat := fun a b => rdA [.lst 25, .agg RK1] [] a b fun ⟨a0, a1, _⟩ _ => (a0, a1)
  args := fun x => [(AV.list 25 x.1 none), (AV.agg (Ren1 x.2))]
  bs := fun x => []
  ret := fun y => ⟨(AV.v (.int .i64 y)), [], none, [], [], []⟩
  t := fun x α k => (match F13_d4 N (x.1, 0, x.2) with | some y3 => (match y3 with | .inl z4 => (k z4) | .inr z5 => (k (-1))) | none => none)
noncomputable abbrev F13_d (N : Nat) (x : (List (List AV)) × RT1) : Option (Int) := (zim N).d x
noncomputable def zet (N : Nat) : List (Nat × LSpec) := [(4, Z1 N)]
noncomputable def F13_c : Code := Try.f13.body.getD .skip
theorem F13_par4 (N : Nat) : Par (Z1 N).b := by
  intro x α β kn ke kn' ke' r r' h h1 h2
  revert h
  dsimp only [Z1]
  (repeat' (first | (with_reducible refine zf ?_ ?_) | (with_reducible refine zc ?_ ?_) | split)) <;> intro h <;> first | exact h1 _ h | exact h2 _ h | (cases h; done)
theorem zmQ (N : Nat) : BdOk (zt Try.prog) (F13_g N) JI N (zet N) 4 F13_c (Z1 N) := fun x α kn ke => by kernel_rfl
theorem zkA (N : Nat) : LpOk Try.prog JI N (zet N) 4 (zd 4 F13_c) :=
  zD (ze Try.prog) (zk _) zn JI N (zet N) 4 F13_c (l := []) (by kernel_rfl) (by kernel_rfl) an (Z1 N) rfl (fun s x hc h => by dsimp only [Z1] at h; exact zH hc h (fun _ _ => rfl) rfl rfl) (fun _ => rfl) (zmQ N) (F13_par4 N)
theorem F13_parF (N : Nat) : ParF (zim N).t := by
  intro x α β k k' r r' h h1
  revert h
  dsimp only [zim]
  (repeat' (first | (with_reducible refine zf ?_ ?_) | (with_reducible refine zc ?_ ?_) | split)) <;> intro h <;> first | exact h1 _ h | (cases h; done)
theorem F13_text (N : Nat) : TxOk (zt Try.prog) (F13_g N) JI (lam N (zet N)) Try.f13 (zim N) := fun x => by kernel_rfl
noncomputable def F13_e (N : Nat) : Ent Try.prog := zC (ze Try.prog) (zk _) zn 13 Try.f13 Try.func13 rfl JI (lam N (zet N)) (zq (l := [(4, zd 4 F13_c)]) (al (zkA N) an) (by kernel_rfl)) (zim N) (fun _ => ⟨rfl, rfl⟩) (F13_text N) (fun _ _ _ h => zB h (fun _ _ => rfl) (fun _ _ => rfl)) (F13_parF N)
def Z5 : Nat → Keep × Keep := anL [(4, ⟨[5], [], [], [(0, 9), (1, 9)], [], [], [], [], false⟩, ⟨[4], [], [], [], [], [], [], [], false⟩), (12, ⟨[5, 6], [], [], [(0, 9), (1, 9)], [], [], [], [], false⟩, ⟨[4, 5], [], [], [(0, 9), (1, 9)], [], [], [], [], false⟩)]
noncomputable def F74_g (N : Nat) : GamK := gam (P := Try.prog) []
noncomputable def Zn (N : Nat) : LSpec where
  X := (List (List AV)) × (List (List AV)) × Int × Int
  Y := ((List (List AV)) × (List (List AV)) × Bool × Int) ⊕ ((List (List AV)) × (List (List AV)) × Int)
  p := fun s => rdS 28 0 [(0, .lst 9), (1, .lst 9), (5, .int .i64), (6, .int .i64)] [] s fun ⟨a0, a1, a2, a3, _⟩ _ => (a0, a1, a2, a3)
  st := fun u12 => mkS 28 [(0, (AV.list 9 u12.1 none)), (1, (AV.list 9 u12.2.1 none)), (5, (AV.v (.int .i64 u12.2.2.1))), (6, (AV.v (.int .i64 u12.2.2.2)))] [] (Z5 12).1.toks 0
  out := fun y => match y with
    | .inl y => (.ret, mkS 28 [(0, (AV.list 9 y.1 none)), (1, (AV.list 9 y.2.1 none)), (4, (AV.v (.bool y.2.2.1))), (5, (AV.v (.int .i64 y.2.2.2)))] [] (Z5 12).2.toks 0)
    | .inr y => (.exit 2, mkS 28 [(0, (AV.list 9 y.1 none)), (1, (AV.list 9 y.2.1 none)), (5, (AV.v (.int .i64 y.2.2)))] [] (Z5 12).2.toks 0)
  sp := fun y α k => match y with
    | .inl y => k (.ret, mkS 28 [(0, (AV.list 9 y.1 none)), (1, (AV.list 9 y.2.1 none)), (4, (AV.v (.bool y.2.2.1))), (5, (AV.v (.int .i64 y.2.2.2)))] [] (Z5 12).2.toks 0)
    | .inr y => k (.exit 2, mkS 28 [(0, (AV.list 9 y.1 none)), (1, (AV.list 9 y.2.1 none)), (5, (AV.v (.int .i64 y.2.2)))] [] (Z5 12).2.toks 0)
  spe := fun y α k => by rcases y with _ | _ <;> rfl
  b := fun u12 α kn ke => (match (decide (u12.2.2.2 < (u12.2.1.length : Int))) with | true => (if 0 ≤ u12.2.2.1 then (match u12.1[u12.2.2.1.toNat]? with | some c1 => (match Rrd1 c1 with | some e2 => (if 0 ≤ u12.2.2.2 then (match u12.2.1[u12.2.2.2.toNat]? with | some c3 => (match Rrd1 c3 with | some e4 => (match (((e2.1 == e4.1) && ((e2.2.1 == e4.2.1) && ((e2.2.2.1 == e4.2.2.1) && ((e2.2.2.2.1 == e4.2.2.2.1) && true)))) && ((e2.2.2.2.2.1 == e4.2.2.2.2.1) && ((e2.2.2.2.2.2.1 == e4.2.2.2.2.2.1) && ((e2.2.2.2.2.2.2.1 == e4.2.2.2.2.2.2.1) && ((e2.2.2.2.2.2.2.2.1 == e4.2.2.2.2.2.2.2.1) && ((e2.2.2.2.2.2.2.2.2.1 == e4.2.2.2.2.2.2.2.2.1) && true)))))) with | true => (ke (.inl (u12.1, u12.2.1, true, u12.2.2.1))) | false => (kn (u12.1, u12.2.1, u12.2.2.1, (i64 (u12.2.2.2 + 1))))) | none => none) | none => none) else none) | none => none) | none => none) else none) | false => (ke (.inr (u12.1, u12.2.1, u12.2.2.1))))
noncomputable abbrev zga (N : Nat) (x : (List (List AV)) × (List (List AV)) × Int × Int) : Option (((List (List AV)) × (List (List AV)) × Bool × Int) ⊕ ((List (List AV)) × (List (List AV)) × Int)) := (Zn N).L N x
noncomputable def ZT (N : Nat) : LSpec where
  X := (List (List AV)) × (List (List AV)) × Int
  Y := (Bool) ⊕ (Unit)
  p := fun s => rdS 28 0 [(0, .lst 9), (1, .lst 9), (5, .int .i64)] [] s fun ⟨a0, a1, a2, _⟩ _ => (a0, a1, a2)
  st := fun u4 => mkS 28 [(0, (AV.list 9 u4.1 none)), (1, (AV.list 9 u4.2.1 none)), (5, (AV.v (.int .i64 u4.2.2)))] [] (Z5 4).1.toks 0
  out := fun y => match y with
    | .inl y => (.ret, mkS 28 [(4, (AV.v (.bool y)))] [] (Z5 4).2.toks 0)
    | .inr y => (.exit 0, mkS 28 [] [] (Z5 4).2.toks 0)
  sp := fun y α k => match y with
    | .inl y => k (.ret, mkS 28 [(4, (AV.v (.bool y)))] [] (Z5 4).2.toks 0)
    | .inr y => k (.exit 0, mkS 28 [] [] (Z5 4).2.toks 0)
  spe := fun y α k => by rcases y with _ | _ <;> rfl
  b := fun u4 α kn ke => (match (decide (u4.2.2 < (u4.1.length : Int))) with | true => (match zga N (u4.1, u4.2.1, u4.2.2, 0) with | some y5 => (match y5 with | .inl z6 => (ke (.inl z6.2.2.1)) | .inr z7 => (kn (z7.1, z7.2.1, (i64 (z7.2.2 + 1))))) | none => none) | false => (ke (.inr ())))
noncomputable abbrev F74_d4 (N : Nat) (x : (List (List AV)) × (List (List AV)) × Int) : Option ((Bool) ⊕ (Unit)) := (ZT N).L N x
noncomputable def zjk (N : Nat) : FSpec where
  X := (List (List AV)) × (List (List AV))
  Y := Bool
  ash := [[some 9], [some 9]]
  bsh := []
  S := ⟨[[none]], [], [], [], []⟩
  bm := false
  pat := fun a b => rdA [.lst 9, .lst 9] [] a b fun ⟨a0, a1, _⟩ _ => (a0, a1)
  args := fun x => [(AV.list 9 x.1 none), (AV.list 9 x.2 none)]
  bs := fun x => []
  ret := fun y => ⟨(AV.v (.bool y)), [], none, [], [], []⟩
  t := fun x α k => (match F74_d4 N (x.1, x.2, 0) with | some y8 => (match y8 with | .inl z9 => (k z9) | .inr z10 => (k false)) | none => none)
noncomputable abbrev F74_d (N : Nat) (x : (List (List AV)) × (List (List AV))) : Option (Bool) := (zjk N).d x
noncomputable def zaU (N : Nat) : List (Nat × LSpec) := [(4, ZT N), (12, Zn N)]
noncomputable def zdH : Code := Try.f74.body.getD .skip
theorem zjq (N : Nat) : Par (Zn N).b := by
  intro x α β kn ke kn' ke' r r' h h1 h2
  revert h
  dsimp only [Zn]
  (repeat' (first | (with_reducible refine zf ?_ ?_) | (with_reducible refine zc ?_ ?_) | split)) <;> intro h <;> first | exact h1 _ h | exact h2 _ h | (cases h; done)
theorem zhD (N : Nat) : BdOk (zt Try.prog) (F74_g N) Z5 N (zaU N) 12 zdH (Zn N) := fun x α kn ke => by kernel_rfl
theorem zdp (N : Nat) : LpOk Try.prog Z5 N (zaU N) 12 (zd 12 zdH) :=
  zD (ze Try.prog) (zk _) zn Z5 N (zaU N) 12 zdH (l := []) (by kernel_rfl) (by kernel_rfl) an (Zn N) rfl (fun s x hc h => by dsimp only [Zn] at h; exact zH hc h (fun _ _ => rfl) rfl rfl) (fun _ => rfl) (zhD N) (zjq N)
theorem F74_par4 (N : Nat) : Par (ZT N).b := by
  intro x α β kn ke kn' ke' r r' h h1 h2
  revert h
  dsimp only [ZT]
  (repeat' (first | (with_reducible refine zf ?_ ?_) | (with_reducible refine zc ?_ ?_) | split)) <;> intro h <;> first | exact h1 _ h | exact h2 _ h | (cases h; done)
theorem zjK (N : Nat) : BdOk (zt Try.prog) (F74_g N) Z5 N (zaU N) 4 zdH (ZT N) := fun x α kn ke => by kernel_rfl
theorem zle (N : Nat) : LpOk Try.prog Z5 N (zaU N) 4 (zd 4 zdH) :=
  zD (ze Try.prog) (zk _) zn Z5 N (zaU N) 4 zdH (l := [(12, zd 12 zdH)]) (by kernel_rfl) (by kernel_rfl) (al (zdp N) an) (ZT N) rfl (fun s x hc h => by dsimp only [ZT] at h; exact zH hc h (fun _ _ => rfl) rfl rfl) (fun _ => rfl) (zjK N) (F74_par4 N)
theorem F74_parF (N : Nat) : ParF (zjk N).t := by
  intro x α β k k' r r' h h1
  revert h
  dsimp only [zjk]
  (repeat' (first | (with_reducible refine zf ?_ ?_) | (with_reducible refine zc ?_ ?_) | split)) <;> intro h <;> first | exact h1 _ h | (cases h; done)
theorem F74_text (N : Nat) : TxOk (zt Try.prog) (F74_g N) Z5 (lam N (zaU N)) Try.f74 (zjk N) := fun x => by kernel_rfl
noncomputable def F74_e (N : Nat) : Ent Try.prog := zC (ze Try.prog) (zk _) zn 74 Try.f74 Try.func74 rfl Z5 (lam N (zaU N)) (zq (l := [(4, zd 4 zdH), (12, zd 12 zdH)]) (al (zle N) (al (zdp N) an)) (by kernel_rfl)) (zjk N) (fun _ => ⟨rfl, rfl⟩) (F74_text N) (fun _ _ _ h => zB h (fun _ _ => rfl) (fun _ _ => rfl)) (F74_parF N)
def jS : Nat → Keep × Keep := anL [(4, ⟨[0, 1, 5], [], [0], [], [], [], [], [0], false⟩, ⟨[4], [], [0], [], [], [], [], [0], false⟩)]
noncomputable def F58a_g (N : Nat) : GamK := gam (P := Try.prog) []
noncomputable def Zk (N : Nat) : LSpec where
  X := Nat × Int × Int × (List AV)
  Y := (Bool × (List AV)) ⊕ ((List AV))
  p := fun s => rdS 18 1 [(0, .vs0 0 1), (1, .int .i64), (5, .int .i64)] [(0, .tt)] s fun ⟨a0, a1, a2, _⟩ ⟨a3, _⟩ => (a0, a1, a2, a3)
  st := fun u4 => mkS 18 [(0, (AV.vs 0 0 u4.1 1)), (1, (AV.v (.int .i64 u4.2.1))), (5, (AV.v (.int .i64 u4.2.2.1)))] [(0, u4.2.2.2)] (jS 4).1.toks 1
  out := fun y => match y with
    | .inl y => (.ret, mkS 18 [(4, (AV.v (.bool y.1)))] [(0, y.2)] (jS 4).2.toks 1)
    | .inr y => (.exit 0, mkS 18 [] [(0, y)] (jS 4).2.toks 1)
  sp := fun y α k => match y with
    | .inl y => k (.ret, mkS 18 [(4, (AV.v (.bool y.1)))] [(0, y.2)] (jS 4).2.toks 1)
    | .inr y => k (.exit 0, mkS 18 [] [(0, y)] (jS 4).2.toks 1)
  spe := fun y α k => by rcases y with _ | _ <;> rfl
  b := fun u4 α kn ke => (match (decide (u4.2.2.1 < ((u4.1 : Nat) : Int))) with | true => (if 0 ≤ u4.2.2.1 ∧ u4.2.2.1 < (u4.1 : Int) then (match u4.2.2.2[((0 + u4.2.2.1.toNat) * 1)]? with | some x4 => (match x4 with | .v (.int q6 n5) => (if q6 = .i64 then (match (n5 == u4.2.1) with | true => (ke (.inl (true, (u4.2.2.2.map dat0)))) | false => (kn (u4.1, u4.2.1, (i64 (u4.2.2.1 + 1)), (u4.2.2.2.map dat0)))) else none) | _ => none) | none => none) else none) | false => (ke (.inr (u4.2.2.2.map dat0))))
noncomputable abbrev zmj (N : Nat) (x : Nat × Int × Int × (List AV)) : Option ((Bool × (List AV)) ⊕ ((List AV))) := (Zk N).L N x
noncomputable def zdc (N : Nat) : FSpec where
  X := Nat × Int × (List AV)
  Y := Bool × (List AV)
  ash := [[none], [none]]
  bsh := [[]]
  S := ⟨[[none]], [[]], [], [], [0]⟩
  bm := false
  pat := fun a b => rdA [.vs0 0 1, .int .i64] [.tt] a b fun ⟨a0, a1, _⟩ ⟨a2, _⟩ => (a0, a1, a2)
  args := fun x => [(AV.vs 0 0 x.1 1), (AV.v (.int .i64 x.2.1))]
  bs := fun x => [x.2.2]
  ret := fun y => ⟨(AV.v (.bool y.1)), [y.2], none, [], [], [0]⟩
  t := fun x α k => (match zmj N (x.1, x.2.1, 0, (x.2.2.map dat0)) with | some y7 => (match y7 with | .inl z8 => (k (z8.1, (z8.2.map dat0))) | .inr z9 => (k (false, (z9.map dat0)))) | none => none)
noncomputable abbrev zdx (N : Nat) (x : Nat × Int × (List AV)) : Option (Bool × (List AV)) := (zdc N).d x
noncomputable def zbS (N : Nat) : List (Nat × LSpec) := [(4, Zk N)]
noncomputable def zgZ : Code := Try.f58.body.getD .skip
theorem zkH (N : Nat) : Par (Zk N).b := by
  intro x α β kn ke kn' ke' r r' h h1 h2
  revert h
  dsimp only [Zk]
  (repeat' (first | (with_reducible refine zf ?_ ?_) | (with_reducible refine zc ?_ ?_) | split)) <;> intro h <;> first | exact h1 _ h | exact h2 _ h | (cases h; done)
theorem ziM (N : Nat) : BdOk (zt Try.prog) (F58a_g N) jS N (zbS N) 4 zgZ (Zk N) := fun x α kn ke => by kernel_rfl
theorem zjd (N : Nat) : LpOk Try.prog jS N (zbS N) 4 (zd 4 zgZ) :=
  zD (ze Try.prog) (zk _) zn jS N (zbS N) 4 zgZ (l := []) (by kernel_rfl) (by kernel_rfl) an (Zk N) rfl (fun s x hc h => by dsimp only [Zk] at h; exact zH hc h (fun _ _ => rfl) rfl rfl) (fun _ => rfl) (ziM N) (zkH N)
theorem zmg (N : Nat) : ParF (zdc N).t := by
  intro x α β k k' r r' h h1
  revert h
  dsimp only [zdc]
  (repeat' (first | (with_reducible refine zf ?_ ?_) | (with_reducible refine zc ?_ ?_) | split)) <;> intro h <;> first | exact h1 _ h | (cases h; done)
theorem zkI (N : Nat) : TxOk (zt Try.prog) (F58a_g N) jS (lam N (zbS N)) Try.f58 (zdc N) := fun x => by kernel_rfl
noncomputable def F58a_e (N : Nat) : Ent Try.prog := zC (ze Try.prog) (zk _) zn 58 Try.f58 Try.func58 rfl jS (lam N (zbS N)) (zq (l := [(4, zd 4 zgZ)]) (al (zjd N) an) (by kernel_rfl)) (zdc N) (fun _ => ⟨rfl, rfl⟩) (zkI N) (fun _ _ _ h => zB h (fun _ _ => rfl) (fun _ _ => rfl)) (zmg N)
def F34_an : Nat → Keep × Keep := anL []
noncomputable def F34_g (N : Nat) : GamK := gam (P := Try.prog) []
noncomputable def zjb (N : Nat) : FSpec where
  X := RT4 × RT0
  Y := Bool
  ash := [[none, none, none, none], [none, none, none, none, none, none, none, none, none, some 9, none, none, none, none, none, none, none, none, none, none, none, none, none, none, none]]
  bsh := []
  S := ⟨[[none]], [], [], [], []⟩
  bm := false
  pat := fun a b => rdA [.agg RK4, .agg RK0] [] a b fun ⟨a0, a1, _⟩ _ => (a0, a1)
  args := fun x => [(AV.agg (Ren4 x.1)), (AV.agg (Ren0 x.2))]
  bs := fun x => []
  ret := fun y => ⟨(AV.v (.bool y)), [], none, [], [], []⟩
  t := fun x α k => (match (decide (x.2.2.2.2.2.2.2.2.2.2.2.2.2.2.2.2.2.2.2.2.2.2.2.2.2.1 ≥ 1)) with | true => (match (decide (x.2.2.2.2.2.2.2.2.2.2.2.2.2.2.2.2.2.2.2.2.2.2.2.1 ≥ x.1.1)) with | true => (match (decide ((x.2.2.2.2.2.2.2.2.2.2.1.length : Int) ≥ x.1.2.1)) with | true => (k (decide (x.2.2.2.2.2.2.2.2.2.2.2.2.2.2.2.1 ≤ x.1.2.2.1))) | false => (k false)) | false => (k false)) | false => (k false))
noncomputable abbrev F34_d (N : Nat) (x : RT4 × RT0) : Option (Bool) := (zjb N).d x
theorem F34_parF (N : Nat) : ParF (zjb N).t := by
  intro x α β k k' r r' h h1
  revert h
  dsimp only [zjb]
  (repeat' (first | (with_reducible refine zf ?_ ?_) | (with_reducible refine zc ?_ ?_) | split)) <;> intro h <;> first | exact h1 _ h | (cases h; done)
theorem F34_text (N : Nat) : TxOk (zt Try.prog) (F34_g N) F34_an (lam N []) Try.f34 (zjb N) := fun x => by kernel_rfl
noncomputable def F34_e (N : Nat) : Ent Try.prog := zC (ze Try.prog) (zk _) zn 34 Try.f34 Try.func34 rfl F34_an (lam N []) (zq (l := []) an (by kernel_rfl)) (zjb N) (fun _ => ⟨rfl, rfl⟩) (F34_text N) (fun _ _ _ h => zB h (fun _ _ => rfl) (fun _ _ => rfl)) (F34_parF N)
def zaP : Nat → Keep × Keep := anL [(5, ⟨[2, 3, 5, 6], [], [2, 3], [], [], [], [], [], false⟩, ⟨[5], [], [], [], [], [], [], [], false⟩)]
noncomputable def F14_g (N : Nat) : GamK := gam (P := Try.prog) [F33_e N, F34_e N]
noncomputable def jq (N : Nat) : LSpec where
  X := Int × Int × (List (List AV)) × Int × Int × RT0
  Y := (Int)
  p := fun s => rdS 29 0 [(2, .ptr 2 0), (3, .ptr 3 0), (5, .int .i64), (6, .int .i64)] [(2, .cells [.lst 4, .int .i64, .int .i64]), (3, .row RK0)] s fun ⟨_, _, a0, a1, _⟩ ⟨⟨a2, a3, a4, _⟩, a5, _⟩ => (a0, a1, a2, a3, a4, a5)
  st := fun u5 => mkS 29 [(2, (AV.ptr 2 0)), (3, (AV.ptr 3 0)), (5, (AV.v (.int .i64 u5.1))), (6, (AV.v (.int .i64 u5.2.1)))] [(2, [(AV.list 4 u5.2.2.1 none), (AV.v (.int .i64 u5.2.2.2.1)), (AV.v (.int .i64 u5.2.2.2.2.1))]), (3, (Ren0 u5.2.2.2.2.2))] (zaP 5).1.toks 0
  out := fun y => (.exit 0, mkS 29 [(5, (AV.v (.int .i64 y)))] [] (zaP 5).2.toks 0)
  sp := fun y α k => k (.exit 0, mkS 29 [(5, (AV.v (.int .i64 y)))] [] (zaP 5).2.toks 0)
  spe := fun y α k => rfl
  b := fun u5 α kn ke => (match (decide (u5.2.1 < (u5.2.2.1.length : Int))) with | true => (match zjm N (u5.2.2.1, u5.2.2.2.1, u5.2.2.2.2.1) with | some y1 => (match (y1 == 0) with | true => (if 0 ≤ u5.2.1 then (match u5.2.2.1[u5.2.1.toNat]? with | some c2 => (match Rrd4 c2 with | some e3 => (match F34_d N (e3, u5.2.2.2.2.2) with | some y4 => (match y4 with | true => (kn ((i64 (u5.2.1 + 1)), (i64 (u5.2.1 + 1)), u5.2.2)) | false => (kn (u5.1, (i64 (u5.2.1 + 1)), u5.2.2))) | none => none) | none => none) | none => none) else none) | false => (ke u5.1)) | none => none) | false => (ke u5.1))
noncomputable abbrev F14_d5 (N : Nat) (x : Int × Int × (List (List AV)) × Int × Int × RT0) : Option ((Int)) := (jq N).L N x
noncomputable def zcw (N : Nat) : FSpec where
  X := (List (List AV)) × Int × Int × RT0
  Y := Int
  ash := [[some 4, none, none], [none, none, none, none, none, none, none, none, none, some 9, none, none, none, none, none, none, none, none, none, none, none, none, none, none, none]]
  bsh := []
  S := ⟨[[none]], [], [], [], []⟩
  bm := false
  pat := fun a b => zj a fun v1 c2 => Z2 v1 fun c3 => zj c3 fun c4 c5 => pLst 4 c4 fun a0 => zj c5 fun c6 c7 => pInt .i64 c6 fun a1 => zj c7 fun c8 c9 => pInt .i64 c8 fun a2 => pEnd c9 <| zj c2 fun v10 c11 => pAgg RK0 v10 fun a3 => pEnd c11 <| pEnd b <| some (a0, a1, a2, a3)
  args := fun x => [(AV.agg [(AV.list 4 x.1 none), (AV.v (.int .i64 x.2.1)), (AV.v (.int .i64 x.2.2.1))]), (AV.agg (Ren0 x.2.2.2))]
  bs := fun x => []
  ret := fun y => ⟨(AV.v (.int .i64 y)), [], none, [], [], []⟩
  t := fun x α k => (match F14_d5 N (0, 0, x) with | some y5 => (k y5) | none => none)
noncomputable abbrev zdW (N : Nat) (x : (List (List AV)) × Int × Int × RT0) : Option (Int) := (zcw N).d x
noncomputable def ze8 (N : Nat) : List (Nat × LSpec) := [(5, jq N)]
noncomputable def F14_c : Code := Try.f14.body.getD .skip
theorem F14_par5 (N : Nat) : Par (jq N).b := by
  intro x α β kn ke kn' ke' r r' h h1 h2
  revert h
  dsimp only [jq]
  (repeat' (first | (with_reducible refine zf ?_ ?_) | (with_reducible refine zc ?_ ?_) | split)) <;> intro h <;> first | exact h1 _ h | exact h2 _ h | (cases h; done)
theorem zlP (N : Nat) : BdOk (zt Try.prog) (F14_g N) zaP N (ze8 N) 5 F14_c (jq N) := fun x α kn ke => by kernel_rfl
theorem zl4 (N : Nat) : LpOk Try.prog zaP N (ze8 N) 5 (zd 5 F14_c) :=
  zD (ze Try.prog) (zk _) zn zaP N (ze8 N) 5 F14_c (l := []) (by kernel_rfl) (by kernel_rfl) an (jq N) rfl (fun s x hc h => by dsimp only [jq] at h; exact zH hc h (fun _ _ => rfl) rfl rfl) (fun _ => rfl) (zlP N) (F14_par5 N)
theorem F14_parF (N : Nat) : ParF (zcw N).t := by
  intro x α β k k' r r' h h1
  revert h
  dsimp only [zcw]
  (repeat' (first | (with_reducible refine zf ?_ ?_) | (with_reducible refine zc ?_ ?_) | split)) <;> intro h <;> first | exact h1 _ h | (cases h; done)
theorem F14_text (N : Nat) : TxOk (zt Try.prog) (F14_g N) zaP (lam N (ze8 N)) Try.f14 (zcw N) := fun x => by kernel_rfl
theorem F14_pat (N : Nat) (a : List AV) (b : List (List AV)) (x : (zcw N).X) (h : (zcw N).pat a b = some x) : a = (zcw N).args x ∧ b = (zcw N).bs x := by
  obtain ⟨v1, c2, rfl, g0⟩ := zb (show zj _ _ = some x from h)
  obtain ⟨c3, rfl, g1⟩ := zJ g0; clear g0
  obtain ⟨c4, c5, rfl, g2⟩ := zb g1; clear g1
  obtain ⟨a0, rfl, g3⟩ := zy g2; clear g2
  obtain ⟨c6, c7, rfl, g4⟩ := zb g3; clear g3
  obtain ⟨a1, rfl, g5⟩ := zi g4; clear g4
  obtain ⟨c8, c9, rfl, g6⟩ := zb g5; clear g5
  obtain ⟨a2, rfl, g7⟩ := zi g6; clear g6
  obtain ⟨rfl, g8⟩ := zg g7; clear g7
  obtain ⟨v10, c11, rfl, g9⟩ := zb g8; clear g8
  obtain ⟨a3, rfl, g10⟩ := j9 g9; clear g9
  obtain ⟨rfl, g11⟩ := zg g10; clear g10
  obtain ⟨rfl, g12⟩ := zg g11; clear g11
  clear h
  cases g12
  exact ⟨rfl, rfl⟩
noncomputable def F14_e (N : Nat) : Ent Try.prog := zC (ze Try.prog) (zk _) zn 14 Try.f14 Try.func14 rfl zaP (lam N (ze8 N)) (zq (l := [(5, zd 5 F14_c)]) (al (zl4 N) an) (by kernel_rfl)) (zcw N) (fun _ => ⟨rfl, rfl⟩) (F14_text N) (F14_pat N) (F14_parF N)
def F75_an : Nat → Keep × Keep := anL []
noncomputable def F75_g (N : Nat) : GamK := gam (P := Try.prog) []
noncomputable def zeb (N : Nat) : FSpec where
  X := Int × Int × Int × Int
  Y := Bool
  ash := [[none, none], [none, none]]
  bsh := []
  S := ⟨[[none]], [], [], [], []⟩
  bm := false
  pat := fun a b => zj a fun v1 c2 => Z2 v1 fun c3 => zj c3 fun c4 c5 => pInt .i64 c4 fun a0 => zj c5 fun c6 c7 => pInt .i64 c6 fun a1 => pEnd c7 <| zj c2 fun v8 c9 => Z2 v8 fun c10 => zj c10 fun c11 c12 => pInt .i64 c11 fun a2 => zj c12 fun c13 c14 => pInt .i64 c13 fun a3 => pEnd c14 <| pEnd c9 <| pEnd b <| some (a0, a1, a2, a3)
  args := fun x => [(AV.agg [(AV.v (.int .i64 x.1)), (AV.v (.int .i64 x.2.1))]), (AV.agg [(AV.v (.int .i64 x.2.2.1)), (AV.v (.int .i64 x.2.2.2))])]
  bs := fun x => []
  ret := fun y => ⟨(AV.v (.bool y)), [], none, [], [], []⟩
  t := fun x α k => (k (decide ((if x.2.2.1 > x.1 then x.2.2.1 else x.1) ≤ (if x.2.2.2 < x.2.1 then x.2.2.2 else x.2.1))))
noncomputable abbrev F75_d (N : Nat) (x : Int × Int × Int × Int) : Option (Bool) := (zeb N).d x
theorem F75_parF (N : Nat) : ParF (zeb N).t := by
  intro x α β k k' r r' h h1
  revert h
  dsimp only [zeb]
  (repeat' (first | (with_reducible refine zf ?_ ?_) | (with_reducible refine zc ?_ ?_) | split)) <;> intro h <;> first | exact h1 _ h | (cases h; done)
theorem F75_text (N : Nat) : TxOk (zt Try.prog) (F75_g N) F75_an (lam N []) Try.f75 (zeb N) := fun x => by kernel_rfl
theorem F75_pat (N : Nat) (a : List AV) (b : List (List AV)) (x : (zeb N).X) (h : (zeb N).pat a b = some x) : a = (zeb N).args x ∧ b = (zeb N).bs x := by
  obtain ⟨v1, c2, rfl, g0⟩ := zb (show zj _ _ = some x from h)
  obtain ⟨c3, rfl, g1⟩ := zJ g0; clear g0
  obtain ⟨c4, c5, rfl, g2⟩ := zb g1; clear g1
  obtain ⟨a0, rfl, g3⟩ := zi g2; clear g2
  obtain ⟨c6, c7, rfl, g4⟩ := zb g3; clear g3
  obtain ⟨a1, rfl, g5⟩ := zi g4; clear g4
  obtain ⟨rfl, g6⟩ := zg g5; clear g5
  obtain ⟨v8, c9, rfl, g7⟩ := zb g6; clear g6
  obtain ⟨c10, rfl, g8⟩ := zJ g7; clear g7
  obtain ⟨c11, c12, rfl, g9⟩ := zb g8; clear g8
  obtain ⟨a2, rfl, g10⟩ := zi g9; clear g9
  obtain ⟨c13, c14, rfl, g11⟩ := zb g10; clear g10
  obtain ⟨a3, rfl, g12⟩ := zi g11; clear g11
  obtain ⟨rfl, g13⟩ := zg g12; clear g12
  obtain ⟨rfl, g14⟩ := zg g13; clear g13
  obtain ⟨rfl, g15⟩ := zg g14; clear g14
  clear h
  cases g15
  exact ⟨rfl, rfl⟩
noncomputable def F75_e (N : Nat) : Ent Try.prog := zC (ze Try.prog) (zk _) zn 75 Try.f75 Try.func75 rfl F75_an (lam N []) (zq (l := []) an (by kernel_rfl)) (zeb N) (fun _ => ⟨rfl, rfl⟩) (F75_text N) (F75_pat N) (F75_parF N)
def F87_an : Nat → Keep × Keep := anL []
noncomputable def F87_g (N : Nat) : GamK := gam (P := Try.prog) []
noncomputable def zcN (N : Nat) : FSpec where
  X := Int × Int × Int
  Y := Bool
  ash := [[none, none, none]]
  bsh := []
  S := ⟨[[none]], [], [], [], []⟩
  bm := false
  pat := fun a b => zj a fun v1 c2 => Z2 v1 fun c3 => zj c3 fun c4 c5 => pInt .i64 c4 fun a0 => zj c5 fun c6 c7 => pInt .i64 c6 fun a1 => zj c7 fun c8 c9 => pInt .i64 c8 fun a2 => pEnd c9 <| pEnd c2 <| pEnd b <| some (a0, a1, a2)
  args := fun x => [(AV.agg [(AV.v (.int .i64 x.1)), (AV.v (.int .i64 x.2.1)), (AV.v (.int .i64 x.2.2))])]
  bs := fun x => []
  ret := fun y => ⟨(AV.v (.bool y)), [], none, [], [], []⟩
  t := fun x α k => (match (decide (x.1 ≥ (-1048576))) with | true => (match (decide (x.1 ≤ 1048576)) with | true => (match (decide (x.2.1 ≥ (-1048576))) with | true => (match (decide (x.2.1 ≤ 1048576)) with | true => (match (decide (x.2.2 ≥ (-16384))) with | true => (k (decide (x.2.2 ≤ 1048576))) | false => (k false)) | false => (k false)) | false => (k false)) | false => (k false)) | false => (k false))
noncomputable abbrev F87_d (N : Nat) (x : Int × Int × Int) : Option (Bool) := (zcN N).d x
theorem F87_parF (N : Nat) : ParF (zcN N).t := by
  intro x α β k k' r r' h h1
  revert h
  dsimp only [zcN]
  (repeat' (first | (with_reducible refine zf ?_ ?_) | (with_reducible refine zc ?_ ?_) | split)) <;> intro h <;> first | exact h1 _ h | (cases h; done)
theorem F87_text (N : Nat) : TxOk (zt Try.prog) (F87_g N) F87_an (lam N []) Try.f87 (zcN N) := fun x => by kernel_rfl
theorem F87_pat (N : Nat) (a : List AV) (b : List (List AV)) (x : (zcN N).X) (h : (zcN N).pat a b = some x) : a = (zcN N).args x ∧ b = (zcN N).bs x := by
  obtain ⟨v1, c2, rfl, g0⟩ := zb (show zj _ _ = some x from h)
  obtain ⟨c3, rfl, g1⟩ := zJ g0; clear g0
  obtain ⟨c4, c5, rfl, g2⟩ := zb g1; clear g1
  obtain ⟨a0, rfl, g3⟩ := zi g2; clear g2
  obtain ⟨c6, c7, rfl, g4⟩ := zb g3; clear g3
  obtain ⟨a1, rfl, g5⟩ := zi g4; clear g4
  obtain ⟨c8, c9, rfl, g6⟩ := zb g5; clear g5
  obtain ⟨a2, rfl, g7⟩ := zi g6; clear g6
  obtain ⟨rfl, g8⟩ := zg g7; clear g7
  obtain ⟨rfl, g9⟩ := zg g8; clear g8
  obtain ⟨rfl, g10⟩ := zg g9; clear g9
  clear h
  cases g10
  exact ⟨rfl, rfl⟩
noncomputable def F87_e (N : Nat) : Ent Try.prog := zC (ze Try.prog) (zk _) zn 87 Try.f87 Try.func87 rfl F87_an (lam N []) (zq (l := []) an (by kernel_rfl)) (zcN N) (fun _ => ⟨rfl, rfl⟩) (F87_text N) (F87_pat N) (F87_parF N)
def F88_an : Nat → Keep × Keep := anL []
noncomputable def F88_g (N : Nat) : GamK := gam (P := Try.prog) []
noncomputable def zlu (N : Nat) : FSpec where
  X := Int
  Y := Int
  ash := [[none]]
  bsh := []
  S := ⟨[[none]], [], [], [], []⟩
  bm := false
  pat := fun a b => rdA [.int .i64] [] a b fun ⟨a0, _⟩ _ => a0
  args := fun x => [(AV.v (.int .i64 x))]
  bs := fun x => []
  ret := fun y => ⟨(AV.v (.int .i64 y)), [], none, [], [], []⟩
  t := fun x α k => (k (i64 (x * x)))
noncomputable abbrev F88_d (N : Nat) (x : Int) : Option (Int) := (zlu N).d x
theorem F88_parF (N : Nat) : ParF (zlu N).t := by
  intro x α β k k' r r' h h1
  revert h
  dsimp only [zlu]
  (repeat' (first | (with_reducible refine zf ?_ ?_) | (with_reducible refine zc ?_ ?_) | split)) <;> intro h <;> first | exact h1 _ h | (cases h; done)
theorem F88_text (N : Nat) : TxOk (zt Try.prog) (F88_g N) F88_an (lam N []) Try.f88 (zlu N) := fun x => by kernel_rfl
noncomputable def F88_e (N : Nat) : Ent Try.prog := zC (ze Try.prog) (zk _) zn 88 Try.f88 Try.func88 rfl F88_an (lam N []) (zq (l := []) an (by kernel_rfl)) (zlu N) (fun _ => ⟨rfl, rfl⟩) (F88_text N) (fun _ _ _ h => zB h (fun _ _ => rfl) (fun _ _ => rfl)) (F88_parF N)
def F76_an : Nat → Keep × Keep := anL []
noncomputable def F76_g (N : Nat) : GamK := gam (P := Try.prog) [F87_e N, F88_e N]
noncomputable def zcL (N : Nat) : FSpec where
  X := Int × Int × Int × Int × Int × Int
  Y := Int
  ash := [[none, none, none], [none, none, none]]
  bsh := []
  S := ⟨[[none]], [], [], [], []⟩
  bm := false
  pat := fun a b => zj a fun v1 c2 => Z2 v1 fun c3 => zj c3 fun c4 c5 => pInt .i64 c4 fun a0 => zj c5 fun c6 c7 => pInt .i64 c6 fun a1 => zj c7 fun c8 c9 => pInt .i64 c8 fun a2 => pEnd c9 <| zj c2 fun v10 c11 => Z2 v10 fun c12 => zj c12 fun c13 c14 => pInt .i64 c13 fun a3 => zj c14 fun c15 c16 => pInt .i64 c15 fun a4 => zj c16 fun c17 c18 => pInt .i64 c17 fun a5 => pEnd c18 <| pEnd c11 <| pEnd b <| some (a0, a1, a2, a3, a4, a5)
  args := fun x => [(AV.agg [(AV.v (.int .i64 x.1)), (AV.v (.int .i64 x.2.1)), (AV.v (.int .i64 x.2.2.1))]), (AV.agg [(AV.v (.int .i64 x.2.2.2.1)), (AV.v (.int .i64 x.2.2.2.2.1)), (AV.v (.int .i64 x.2.2.2.2.2))])]
  bs := fun x => []
  ret := fun y => ⟨(AV.v (.int .i64 y)), [], none, [], [], []⟩
  t := fun x α k => (match F87_d N (x.1, x.2.1, x.2.2.1) with | some y1 => (match (!y1) with | true => (k 0) | false => (match F87_d N x.2.2.2 with | some y2 => (match (!y2) with | true => (k 0) | false => (match F88_d N (i64 (x.1 - x.2.2.2.1)) with | some y3 => (match F88_d N (i64 (x.2.1 - x.2.2.2.2.1)) with | some y4 => (match F88_d N (i64 (x.2.2.1 - x.2.2.2.2.2)) with | some y5 => (k (i64 ((i64 (y3 + y4)) + y5))) | none => none) | none => none) | none => none)) | none => none)) | none => none)
noncomputable abbrev F76_d (N : Nat) (x : Int × Int × Int × Int × Int × Int) : Option (Int) := (zcL N).d x
theorem F76_parF (N : Nat) : ParF (zcL N).t := by
  intro x α β k k' r r' h h1
  revert h
  dsimp only [zcL]
  (repeat' (first | (with_reducible refine zf ?_ ?_) | (with_reducible refine zc ?_ ?_) | split)) <;> intro h <;> first | exact h1 _ h | (cases h; done)
theorem F76_text (N : Nat) : TxOk (zt Try.prog) (F76_g N) F76_an (lam N []) Try.f76 (zcL N) := fun x => by kernel_rfl
theorem F76_pat (N : Nat) (a : List AV) (b : List (List AV)) (x : (zcL N).X) (h : (zcL N).pat a b = some x) : a = (zcL N).args x ∧ b = (zcL N).bs x := by
  obtain ⟨v1, c2, rfl, g0⟩ := zb (show zj _ _ = some x from h)
  obtain ⟨c3, rfl, g1⟩ := zJ g0; clear g0
  obtain ⟨c4, c5, rfl, g2⟩ := zb g1; clear g1
  obtain ⟨a0, rfl, g3⟩ := zi g2; clear g2
  obtain ⟨c6, c7, rfl, g4⟩ := zb g3; clear g3
  obtain ⟨a1, rfl, g5⟩ := zi g4; clear g4
  obtain ⟨c8, c9, rfl, g6⟩ := zb g5; clear g5
  obtain ⟨a2, rfl, g7⟩ := zi g6; clear g6
  obtain ⟨rfl, g8⟩ := zg g7; clear g7
  obtain ⟨v10, c11, rfl, g9⟩ := zb g8; clear g8
  obtain ⟨c12, rfl, g10⟩ := zJ g9; clear g9
  obtain ⟨c13, c14, rfl, g11⟩ := zb g10; clear g10
  obtain ⟨a3, rfl, g12⟩ := zi g11; clear g11
  obtain ⟨c15, c16, rfl, g13⟩ := zb g12; clear g12
  obtain ⟨a4, rfl, g14⟩ := zi g13; clear g13
  obtain ⟨c17, c18, rfl, g15⟩ := zb g14; clear g14
  obtain ⟨a5, rfl, g16⟩ := zi g15; clear g15
  obtain ⟨rfl, g17⟩ := zg g16; clear g16
  obtain ⟨rfl, g18⟩ := zg g17; clear g17
  obtain ⟨rfl, g19⟩ := zg g18; clear g18
  clear h
  cases g19
  exact ⟨rfl, rfl⟩
noncomputable def F76_e (N : Nat) : Ent Try.prog := zC (ze Try.prog) (zk _) zn 76 Try.f76 Try.func76 rfl F76_an (lam N []) (zq (l := []) an (by kernel_rfl)) (zcL N) (fun _ => ⟨rfl, rfl⟩) (F76_text N) (F76_pat N) (F76_parF N)
def F57_an : Nat → Keep × Keep := anL []
noncomputable def F57_g (N : Nat) : GamK := gam (P := Try.prog) [F33_e N, F14_e N, F75_e N, F76_e N]
noncomputable def zcr (N : Nat) : FSpec where
  X := (List (List AV)) × Int × Int × RT0 × RT0
  Y := Bool
  ash := [[some 4, none, none], [none, none, none, none, none, none, none, none, none, some 9, none, none, none, none, none, none, none, none, none, none, none, none, none, none, none], [none, none, none, none, none, none, none, none, none, some 9, none, none, none, none, none, none, none, none, none, none, none, none, none, none, none]]
  bsh := []
  S := ⟨[[none]], [], [], [], []⟩
  bm := false
  pat := fun a b => zj a fun v1 c2 => Z2 v1 fun c3 => zj c3 fun c4 c5 => pLst 4 c4 fun a0 => zj c5 fun c6 c7 => pInt .i64 c6 fun a1 => zj c7 fun c8 c9 => pInt .i64 c8 fun a2 => pEnd c9 <| zj c2 fun v10 c11 => pAgg RK0 v10 fun a3 => zj c11 fun v12 c13 => pAgg RK0 v12 fun a4 => pEnd c13 <| pEnd b <| some (a0, a1, a2, a3, a4)
  args := fun x => [(AV.agg [(AV.list 4 x.1 none), (AV.v (.int .i64 x.2.1)), (AV.v (.int .i64 x.2.2.1))]), (AV.agg (Ren0 x.2.2.2.1)), (AV.agg (Ren0 x.2.2.2.2))]
  bs := fun x => []
  ret := fun y => ⟨(AV.v (.bool y)), [], none, [], [], []⟩
  t := fun x α k => (match zjm N (x.1, x.2.1, x.2.2.1) with | some y1 => (match (y1 != 0) with | true => (k false) | false => (match zdW N (x.1, x.2.1, x.2.2.1, x.2.2.2.1) with | some y2 => (match zdW N (x.1, x.2.1, x.2.2.1, x.2.2.2.2) with | some y3 => (match (y2 != y3) with | true => (k true) | false => (match F75_d N (x.2.2.2.1.2.2.2.2.2.2.2.2.2.2.2.2.2.2.2.2.2.2.2.2.2.2.1, x.2.2.2.1.2.2.2.2.2.2.2.2.2.2.2.2.2.2.2.2.2.2.2.2.2.2.2.1, x.2.2.2.2.2.2.2.2.2.2.2.2.2.2.2.2.2.2.2.2.2.2.2.2.2.2.1, x.2.2.2.2.2.2.2.2.2.2.2.2.2.2.2.2.2.2.2.2.2.2.2.2.2.2.2.1) with | some y4 => (match (!y4) with | true => (k true) | false => (match (decide (x.2.1 ≤ 4194304)) with | true => (match F76_d N (x.2.2.2.1.2.2.2.2.2.2.2.2.2.2.1, x.2.2.2.1.2.2.2.2.2.2.2.2.2.2.2.1, x.2.2.2.1.2.2.2.2.2.2.2.2.2.2.2.2.1, x.2.2.2.2.2.2.2.2.2.2.2.2.2.2.1, x.2.2.2.2.2.2.2.2.2.2.2.2.2.2.2.1, x.2.2.2.2.2.2.2.2.2.2.2.2.2.2.2.2.1) with | some y5 => (match (decide (y5 > (i64 (x.2.1 * x.2.1)))) with | true => (k true) | false => (k (decide ((if (i64 (x.2.2.2.2.2.2.2.2.2.2.2.2.2.2.2.2.2.1 - x.2.2.2.1.2.2.2.2.2.2.2.2.2.2.2.2.2.1)) > (i64 (x.2.2.2.1.2.2.2.2.2.2.2.2.2.2.2.2.2.1 - x.2.2.2.2.2.2.2.2.2.2.2.2.2.2.2.2.2.1)) then (i64 (x.2.2.2.2.2.2.2.2.2.2.2.2.2.2.2.2.2.1 - x.2.2.2.1.2.2.2.2.2.2.2.2.2.2.2.2.2.1)) else (i64 (x.2.2.2.1.2.2.2.2.2.2.2.2.2.2.2.2.2.1 - x.2.2.2.2.2.2.2.2.2.2.2.2.2.2.2.2.2.1))) > x.2.1)))) | none => none) | false => (k (decide ((if (i64 (x.2.2.2.2.2.2.2.2.2.2.2.2.2.2.2.2.2.1 - x.2.2.2.1.2.2.2.2.2.2.2.2.2.2.2.2.2.1)) > (i64 (x.2.2.2.1.2.2.2.2.2.2.2.2.2.2.2.2.2.1 - x.2.2.2.2.2.2.2.2.2.2.2.2.2.2.2.2.2.1)) then (i64 (x.2.2.2.2.2.2.2.2.2.2.2.2.2.2.2.2.2.1 - x.2.2.2.1.2.2.2.2.2.2.2.2.2.2.2.2.2.1)) else (i64 (x.2.2.2.1.2.2.2.2.2.2.2.2.2.2.2.2.2.1 - x.2.2.2.2.2.2.2.2.2.2.2.2.2.2.2.2.2.1))) > x.2.1))))) | none => none)) | none => none) | none => none)) | none => none)
noncomputable abbrev zhC (N : Nat) (x : (List (List AV)) × Int × Int × RT0 × RT0) : Option (Bool) := (zcr N).d x
theorem F57_parF (N : Nat) : ParF (zcr N).t := by
  intro x α β k k' r r' h h1
  revert h
  dsimp only [zcr]
  (repeat' (first | (with_reducible refine zf ?_ ?_) | (with_reducible refine zc ?_ ?_) | split)) <;> intro h <;> first | exact h1 _ h | (cases h; done)
theorem F57_text (N : Nat) : TxOk (zt Try.prog) (F57_g N) F57_an (lam N []) Try.f57 (zcr N) := fun x => by kernel_rfl
theorem F57_pat (N : Nat) (a : List AV) (b : List (List AV)) (x : (zcr N).X) (h : (zcr N).pat a b = some x) : a = (zcr N).args x ∧ b = (zcr N).bs x := by
  obtain ⟨v1, c2, rfl, g0⟩ := zb (show zj _ _ = some x from h)
  obtain ⟨c3, rfl, g1⟩ := zJ g0; clear g0
  obtain ⟨c4, c5, rfl, g2⟩ := zb g1; clear g1
  obtain ⟨a0, rfl, g3⟩ := zy g2; clear g2
  obtain ⟨c6, c7, rfl, g4⟩ := zb g3; clear g3
  obtain ⟨a1, rfl, g5⟩ := zi g4; clear g4
  obtain ⟨c8, c9, rfl, g6⟩ := zb g5; clear g5
  obtain ⟨a2, rfl, g7⟩ := zi g6; clear g6
  obtain ⟨rfl, g8⟩ := zg g7; clear g7
  obtain ⟨v10, c11, rfl, g9⟩ := zb g8; clear g8
  obtain ⟨a3, rfl, g10⟩ := j9 g9; clear g9
  obtain ⟨v12, c13, rfl, g11⟩ := zb g10; clear g10
  obtain ⟨a4, rfl, g12⟩ := j9 g11; clear g11
  obtain ⟨rfl, g13⟩ := zg g12; clear g12
  obtain ⟨rfl, g14⟩ := zg g13; clear g13
  clear h
  cases g14
  exact ⟨rfl, rfl⟩
noncomputable def F57_e (N : Nat) : Ent Try.prog := zC (ze Try.prog) (zk _) zn 57 Try.f57 Try.func57 rfl F57_an (lam N []) (zq (l := []) an (by kernel_rfl)) (zcr N) (fun _ => ⟨rfl, rfl⟩) (F57_text N) (F57_pat N) (F57_parF N)
def Zh : Nat → Keep × Keep := anL [(5, ⟨[6], [], [], [(0, 38), (1, 25)], [], [(5, 1)], [], [], false⟩, ⟨[], [], [], [(0, 38), (1, 25)], [], [(5, 1)], [], [], false⟩), (21, ⟨[5, 8], [], [1000005], [(0, 38), (1, 25)], [], [], [], [1000005], false⟩, ⟨[5], [], [1000005], [], [], [], [], [1000005], false⟩), (29, ⟨[5, 8, 9], [], [1000005], [(0, 38), (1, 25)], [], [], [], [1000005], false⟩, ⟨[5, 8], [], [1000005], [(0, 38), (1, 25)], [], [], [], [1000005], false⟩)]
noncomputable def zg0 (N : Nat) : GamK := gam (P := Try.prog) [F13_e N, F58a_e N, F74_e N]
noncomputable def zG (N : Nat) : LSpec where
  X := (List (List AV)) × (List (List AV)) × Nat × Int × Int × (List AV)
  Y := ((List (List AV)) × (List (List AV)) × Nat × Int × (List AV))
  p := fun s => rdS 88 0 [(0, .lst 38), (1, .lst 25), (5, .vs0 1000005 1), (8, .int .i64), (9, .int .i64)] [(1000005, .tt)] s fun ⟨a0, a1, a2, a3, a4, _⟩ ⟨a5, _⟩ => (a0, a1, a2, a3, a4, a5)
  st := fun u29 => mkS 88 [(0, (AV.list 38 u29.1 none)), (1, (AV.list 25 u29.2.1 none)), (5, (AV.vs 1000005 0 u29.2.2.1 1)), (8, (AV.v (.int .i64 u29.2.2.2.1))), (9, (AV.v (.int .i64 u29.2.2.2.2.1)))] [(1000005, u29.2.2.2.2.2)] (Zh 29).1.toks 0
  out := fun y => (.exit 4, mkS 88 [(0, (AV.list 38 y.1 none)), (1, (AV.list 25 y.2.1 none)), (5, (AV.vs 1000005 0 y.2.2.1 1)), (8, (AV.v (.int .i64 y.2.2.2.1)))] [(1000005, y.2.2.2.2)] (Zh 29).2.toks 0)
  sp := fun y α k => k (.exit 4, mkS 88 [(0, (AV.list 38 y.1 none)), (1, (AV.list 25 y.2.1 none)), (5, (AV.vs 1000005 0 y.2.2.1 1)), (8, (AV.v (.int .i64 y.2.2.2.1)))] [(1000005, y.2.2.2.2)] (Zh 29).2.toks 0)
  spe := fun y α k => rfl
  b := fun u29 α kn ke => (match (decide (u29.2.2.2.2.1 < (u29.2.1.length : Int))) with | true => (if 0 ≤ u29.2.2.2.1 ∧ u29.2.2.2.1 < (u29.2.2.1 : Int) then (match u29.2.2.2.2.2[((0 + u29.2.2.2.1.toNat) * 1)]? with | some x24 => (match x24 with | .v (.int q26 n25) => (if q26 = .i64 then (match (decide (n25 < 0)) with | true => (if 0 ≤ u29.2.2.2.1 then (match u29.1[u29.2.2.2.1.toNat]? with | some c27 => (match (c27.drop 1)[0]? with | some x28 => (match x28 with | .v (.bool b29) => (match (!b29) with | true => (match zdx N (u29.2.2.1, u29.2.2.2.2.1, (u29.2.2.2.2.2.map dat0)) with | some y30 => (match (!y30.1) with | true => (if 0 ≤ u29.2.2.2.1 then (match u29.1[u29.2.2.2.1.toNat]? with | some c31 => (match (((c31.drop 12).drop 9).drop 0)[0]? with | some x32 => (match zbB 9 x32 with | some l33 => (if 0 ≤ u29.2.2.2.2.1 then (match u29.2.1[u29.2.2.2.2.1.toNat]? with | some c34 => (match ((c34.drop 9).drop 0)[0]? with | some x35 => (match zbB 9 x35 with | some l36 => (match F74_d N (l33, l36) with | some y37 => (match y37 with | true => (if 0 ≤ u29.2.2.2.1 ∧ u29.2.2.2.1 < (u29.2.2.1 : Int) then (if ((0 + u29.2.2.2.1.toNat) * 1) + 1 ≤ y30.2.length then (kn (u29.1, u29.2.1, u29.2.2.1, u29.2.2.2.1, (i64 (u29.2.2.2.2.1 + 1)), ((splice y30.2 ((0 + u29.2.2.2.1.toNat) * 1) [(AV.v (.int .i64 u29.2.2.2.2.1))]).map dat0))) else none) else none) | false => (kn (u29.1, u29.2.1, u29.2.2.1, u29.2.2.2.1, (i64 (u29.2.2.2.2.1 + 1)), (y30.2.map dat0)))) | none => none) | none => none) | none => none) | none => none) else none) | none => none) | none => none) | none => none) else none) | false => (kn (u29.1, u29.2.1, u29.2.2.1, u29.2.2.2.1, (i64 (u29.2.2.2.2.1 + 1)), (y30.2.map dat0)))) | none => none) | false => (ke (u29.1, u29.2.1, u29.2.2.1, u29.2.2.2.1, (u29.2.2.2.2.2.map dat0)))) | _ => none) | none => none) | none => none) else none) | false => (ke (u29.1, u29.2.1, u29.2.2.1, u29.2.2.2.1, (u29.2.2.2.2.2.map dat0)))) else none) | _ => none) | none => none) else none) | false => (ke (u29.1, u29.2.1, u29.2.2.1, u29.2.2.2.1, (u29.2.2.2.2.2.map dat0))))
noncomputable abbrev zgR (N : Nat) (x : (List (List AV)) × (List (List AV)) × Nat × Int × Int × (List AV)) : Option (((List (List AV)) × (List (List AV)) × Nat × Int × (List AV))) := (zG N).L N x
noncomputable def Zg (N : Nat) : LSpec where
  X := (List (List AV)) × (List (List AV)) × Nat × Int × (List AV)
  Y := (Nat × (List AV))
  p := fun s => rdS 88 0 [(0, .lst 38), (1, .lst 25), (5, .vs0 1000005 1), (8, .int .i64)] [(1000005, .tt)] s fun ⟨a0, a1, a2, a3, _⟩ ⟨a4, _⟩ => (a0, a1, a2, a3, a4)
  st := fun u21 => mkS 88 [(0, (AV.list 38 u21.1 none)), (1, (AV.list 25 u21.2.1 none)), (5, (AV.vs 1000005 0 u21.2.2.1 1)), (8, (AV.v (.int .i64 u21.2.2.2.1)))] [(1000005, u21.2.2.2.2)] (Zh 21).1.toks 0
  out := fun y => (.exit 2, mkS 88 [(5, (AV.vs 1000005 0 y.1 1))] [(1000005, y.2)] (Zh 21).2.toks 0)
  sp := fun y α k => k (.exit 2, mkS 88 [(5, (AV.vs 1000005 0 y.1 1))] [(1000005, y.2)] (Zh 21).2.toks 0)
  spe := fun y α k => rfl
  b := fun u21 α kn ke => (match (decide (u21.2.2.2.1 < (u21.1.length : Int))) with | true => (match zgR N (u21.1, u21.2.1, u21.2.2.1, u21.2.2.2.1, 0, (u21.2.2.2.2.map dat0)) with | some y39 => (kn (y39.1, y39.2.1, y39.2.2.1, (i64 (y39.2.2.2.1 + 1)), (y39.2.2.2.2.map dat0))) | none => none) | false => (ke (u21.2.2.1, (u21.2.2.2.2.map dat0))))
noncomputable abbrev zgB (N : Nat) (x : (List (List AV)) × (List (List AV)) × Nat × Int × (List AV)) : Option ((Nat × (List AV))) := (Zg N).L N x
noncomputable def zU (N : Nat) : LSpec where
  X := Nat × (List (List AV)) × (List (List AV)) × Int × (List AV)
  Y := (Nat × (List (List AV)) × (List (List AV)) × (List AV))
  p := fun s => rdS 88 0 [(5, .vs0 1000005 1), (0, .lst 38), (1, .lst 25), (6, .int .i64)] [(1000005, .tt)] s fun ⟨a0, a1, a2, a3, _⟩ ⟨a4, _⟩ => (a0, a1, a2, a3, a4)
  st := fun u5 => mkS 88 [(5, (AV.vs 1000005 0 u5.1 1)), (0, (AV.list 38 u5.2.1 none)), (1, (AV.list 25 u5.2.2.1 none)), (6, (AV.v (.int .i64 u5.2.2.2.1)))] [(1000005, u5.2.2.2.2)] (Zh 5).1.toks 0
  out := fun y => (.exit 0, mkS 88 [(5, (AV.vs 1000005 0 y.1 1)), (0, (AV.list 38 y.2.1 none)), (1, (AV.list 25 y.2.2.1 none))] [(1000005, y.2.2.2)] (Zh 5).2.toks 0)
  sp := fun y α k => k (.exit 0, mkS 88 [(5, (AV.vs 1000005 0 y.1 1)), (0, (AV.list 38 y.2.1 none)), (1, (AV.list 25 y.2.2.1 none))] [(1000005, y.2.2.2)] (Zh 5).2.toks 0)
  spe := fun y α k => rfl
  b := fun u5 α kn ke => (match (decide (u5.2.2.2.1 < (u5.2.1.length : Int))) with | true => (if 0 ≤ u5.2.2.2.1 then (match u5.2.1[u5.2.2.2.1.toNat]? with | some c1 => (match (c1.drop 1)[0]? with | some x2 => (match x2 with | .v (.bool b3) => (match (!b3) with | true => (if 0 ≤ u5.2.2.2.1 then (match u5.2.1[u5.2.2.2.1.toNat]? with | some c4 => (match Rrd1 (c4.drop 2) with | some e5 => (match F13_d N (u5.2.2.1, e5) with | some y6 => (match zdx N (u5.1, y6, (u5.2.2.2.2.map dat0)) with | some y7 => (match y7.1 with | true => (if u5.1 * 1 ≤ y7.2.length ∧ (u5.1 + [[(AV.v (.int .i64 (-1)))]].length) * 8 ≤ zl then (kn ((u5.1 + [[(AV.v (.int .i64 (-1)))]].length), u5.2.1, u5.2.2.1, (i64 (u5.2.2.2.1 + 1)), ((y7.2.take (u5.1 * 1) ++ [[(AV.v (.int .i64 (-1)))]].flatten).map dat0))) else none) | false => (if u5.1 * 1 ≤ y7.2.length ∧ (u5.1 + [[(AV.v (.int .i64 y6))]].length) * 8 ≤ zl then (kn ((u5.1 + [[(AV.v (.int .i64 y6))]].length), u5.2.1, u5.2.2.1, (i64 (u5.2.2.2.1 + 1)), ((y7.2.take (u5.1 * 1) ++ [[(AV.v (.int .i64 y6))]].flatten).map dat0))) else none)) | none => none) | none => none) | none => none) | none => none) else none) | false => (match zdx N (u5.1, (-1), (u5.2.2.2.2.map dat0)) with | some y8 => (match y8.1 with | true => (if u5.1 * 1 ≤ y8.2.length ∧ (u5.1 + [[(AV.v (.int .i64 (-1)))]].length) * 8 ≤ zl then (kn ((u5.1 + [[(AV.v (.int .i64 (-1)))]].length), u5.2.1, u5.2.2.1, (i64 (u5.2.2.2.1 + 1)), ((y8.2.take (u5.1 * 1) ++ [[(AV.v (.int .i64 (-1)))]].flatten).map dat0))) else none) | false => (if u5.1 * 1 ≤ y8.2.length ∧ (u5.1 + [[(AV.v (.int .i64 (-1)))]].length) * 8 ≤ zl then (kn ((u5.1 + [[(AV.v (.int .i64 (-1)))]].length), u5.2.1, u5.2.2.1, (i64 (u5.2.2.2.1 + 1)), ((y8.2.take (u5.1 * 1) ++ [[(AV.v (.int .i64 (-1)))]].flatten).map dat0))) else none)) | none => none)) | _ => none) | none => none) | none => none) else none) | false => (ke (u5.1, u5.2.1, u5.2.2.1, (u5.2.2.2.2.map dat0))))
noncomputable abbrev zjA (N : Nat) (x : Nat × (List (List AV)) × (List (List AV)) × Int × (List AV)) : Option ((Nat × (List (List AV)) × (List (List AV)) × (List AV))) := (zU N).L N x
noncomputable def zc6 (N : Nat) : FSpec where
  X := (List (List AV)) × (List (List AV))
  Y := Nat × (List AV)
  ash := [[some 38], [some 25]]
  bsh := []
  S := ⟨[[some 1000001]], [], [], [], []⟩
  bm := true
  pat := fun a b => rdA [.lst 38, .lst 25] [] a b fun ⟨a0, a1, _⟩ _ => (a0, a1)
  args := fun x => [(AV.list 38 x.1 none), (AV.list 25 x.2 none)]
  bs := fun x => []
  ret := fun y => ⟨(AV.vs 0 0 y.1 1), [], some y.2, [], [], []⟩
  t := fun x α k => (match zjA N (0, x.1, x.2, 0, ([] : List AV)) with | some y9 => (match zgB N (y9.2.1, y9.2.2.1, y9.1, 0, (y9.2.2.2.map dat0)) with | some y40 => (k (y40.1, (y40.2.map dat0))) | none => none) | none => none)
noncomputable abbrev zmE (N : Nat) (x : (List (List AV)) × (List (List AV))) : Option (Nat × (List AV)) := (zc6 N).d x
noncomputable def jH (N : Nat) : List (Nat × LSpec) := [(5, zU N), (21, Zg N), (29, zG N)]
noncomputable def jX : Code := Try.f56.body.getD .skip
theorem zh5 (N : Nat) : Par (zG N).b := by
  intro x α β kn ke kn' ke' r r' h h1 h2
  revert h
  dsimp only [zG]
  (repeat' (first | (with_reducible refine zf ?_ ?_) | (with_reducible refine zc ?_ ?_) | split)) <;> intro h <;> first | exact h1 _ h | exact h2 _ h | (cases h; done)
theorem zf3 (N : Nat) : BdOk (tabB Try.prog [35]) (zg0 N) Zh N (jH N) 29 jX (zG N) := fun x α kn ke => by kernel_rfl
theorem zbr (N : Nat) : LpOk Try.prog Zh N (jH N) 29 (zd 29 jX) :=
  zD (zM Try.prog [35]) (zk _) zn Zh N (jH N) 29 jX (l := []) (by kernel_rfl) (by kernel_rfl) an (zG N) rfl (fun s x hc h => by dsimp only [zG] at h; exact zH hc h (fun _ _ => rfl) rfl rfl) (fun _ => rfl) (zf3 N) (zh5 N)
theorem zhA (N : Nat) : Par (Zg N).b := by
  intro x α β kn ke kn' ke' r r' h h1 h2
  revert h
  dsimp only [Zg]
  (repeat' (first | (with_reducible refine zf ?_ ?_) | (with_reducible refine zc ?_ ?_) | split)) <;> intro h <;> first | exact h1 _ h | exact h2 _ h | (cases h; done)
theorem zfH (N : Nat) : BdOk (tabB Try.prog [35]) (zg0 N) Zh N (jH N) 21 jX (Zg N) := fun x α kn ke => by kernel_rfl
theorem zgm (N : Nat) : LpOk Try.prog Zh N (jH N) 21 (zd 21 jX) :=
  zD (zM Try.prog [35]) (zk _) zn Zh N (jH N) 21 jX (l := [(29, zd 29 jX)]) (by kernel_rfl) (by kernel_rfl) (al (zbr N) an) (Zg N) rfl (fun s x hc h => by dsimp only [Zg] at h; exact zH hc h (fun _ _ => rfl) rfl rfl) (fun _ => rfl) (zfH N) (zhA N)
theorem zmr (N : Nat) : Par (zU N).b := by
  intro x α β kn ke kn' ke' r r' h h1 h2
  revert h
  dsimp only [zU]
  (repeat' (first | (with_reducible refine zf ?_ ?_) | (with_reducible refine zc ?_ ?_) | split)) <;> intro h <;> first | exact h1 _ h | exact h2 _ h | (cases h; done)
theorem zhP (N : Nat) : BdOk (tabB Try.prog [35]) (zg0 N) Zh N (jH N) 5 jX (zU N) := fun x α kn ke => by kernel_rfl
theorem ziu (N : Nat) : LpOk Try.prog Zh N (jH N) 5 (zd 5 jX) :=
  zD (zM Try.prog [35]) (zk _) zn Zh N (jH N) 5 jX (l := []) (by kernel_rfl) (by kernel_rfl) an (zU N) rfl (fun s x hc h => by dsimp only [zU] at h; exact zH hc h (fun _ _ => rfl) rfl rfl) (fun _ => rfl) (zhP N) (zmr N)
theorem zkb (N : Nat) : ParF (zc6 N).t := by
  intro x α β k k' r r' h h1
  revert h
  dsimp only [zc6]
  (repeat' (first | (with_reducible refine zf ?_ ?_) | (with_reducible refine zc ?_ ?_) | split)) <;> intro h <;> first | exact h1 _ h | (cases h; done)
theorem zjF (N : Nat) : TxOk (tabB Try.prog [35]) (zg0 N) Zh (lam N (jH N)) Try.f56 (zc6 N) := fun x => by kernel_rfl
noncomputable def F56a_e (N : Nat) : Ent Try.prog := zC (zM Try.prog [35]) (zk _) zn 56 Try.f56 Try.func56 rfl Zh (lam N (jH N)) (zq (l := [(5, zd 5 jX), (21, zd 21 jX), (29, zd 29 jX)]) (al (ziu N) (al (zgm N) (al (zbr N) an))) (by kernel_rfl)) (zc6 N) (fun _ => ⟨rfl, rfl⟩) (zjF N) (fun _ _ _ h => zB h (fun _ _ => rfl) (fun _ _ => rfl)) (zkb N)
def F59_an : Nat → Keep × Keep := anL []
noncomputable def F59_g (N : Nat) : GamK := gam (P := Try.prog) [F14_e N]
noncomputable def zcI (N : Nat) : FSpec where
  X := (List (List AV)) × Int × Int × RT0 × Int
  Y := Bool
  ash := [[some 4, none, none], [none, none, none, none, none, none, none, none, none, some 9, none, none, none, none, none, none, none, none, none, none, none, none, none, none, none], [none]]
  bsh := []
  S := ⟨[[none]], [], [], [], []⟩
  bm := false
  pat := fun a b => zj a fun v1 c2 => Z2 v1 fun c3 => zj c3 fun c4 c5 => pLst 4 c4 fun a0 => zj c5 fun c6 c7 => pInt .i64 c6 fun a1 => zj c7 fun c8 c9 => pInt .i64 c8 fun a2 => pEnd c9 <| zj c2 fun v10 c11 => pAgg RK0 v10 fun a3 => zj c11 fun v12 c13 => pInt .i64 v12 fun a4 => pEnd c13 <| pEnd b <| some (a0, a1, a2, a3, a4)
  args := fun x => [(AV.agg [(AV.list 4 x.1 none), (AV.v (.int .i64 x.2.1)), (AV.v (.int .i64 x.2.2.1))]), (AV.agg (Ren0 x.2.2.2.1)), (AV.v (.int .i64 x.2.2.2.2))]
  bs := fun x => []
  ret := fun y => ⟨(AV.v (.bool y)), [], none, [], [], []⟩
  t := fun x α k => (match zdW N (x.1, x.2.1, x.2.2.1, x.2.2.2.1) with | some y1 => (match (y1 == 0) with | true => (k false) | false => (match (decide ((i64 (x.2.2.2.2 - x.2.2.2.1.2.2.2.2.2.2.2.2.2.2.2.2.2.1)) ≥ 0)) with | true => (if 0 ≤ (i64 (y1 - 1)) then (match x.1[(i64 (y1 - 1)).toNat]? with | some c2 => (match (c2.drop 3)[0]? with | some x3 => (match x3 with | .v (.int q5 n4) => (if q5 = .i64 then (k (decide ((i64 (x.2.2.2.2 - x.2.2.2.1.2.2.2.2.2.2.2.2.2.2.2.2.2.1)) ≤ n4))) else none) | _ => none) | none => none) | none => none) else none) | false => (k false))) | none => none)
noncomputable abbrev zmf (N : Nat) (x : (List (List AV)) × Int × Int × RT0 × Int) : Option (Bool) := (zcI N).d x
theorem F59_parF (N : Nat) : ParF (zcI N).t := by
  intro x α β k k' r r' h h1
  revert h
  dsimp only [zcI]
  (repeat' (first | (with_reducible refine zf ?_ ?_) | (with_reducible refine zc ?_ ?_) | split)) <;> intro h <;> first | exact h1 _ h | (cases h; done)
theorem F59_text (N : Nat) : TxOk (zt Try.prog) (F59_g N) F59_an (lam N []) Try.f59 (zcI N) := fun x => by kernel_rfl
theorem F59_pat (N : Nat) (a : List AV) (b : List (List AV)) (x : (zcI N).X) (h : (zcI N).pat a b = some x) : a = (zcI N).args x ∧ b = (zcI N).bs x := by
  obtain ⟨v1, c2, rfl, g0⟩ := zb (show zj _ _ = some x from h)
  obtain ⟨c3, rfl, g1⟩ := zJ g0; clear g0
  obtain ⟨c4, c5, rfl, g2⟩ := zb g1; clear g1
  obtain ⟨a0, rfl, g3⟩ := zy g2; clear g2
  obtain ⟨c6, c7, rfl, g4⟩ := zb g3; clear g3
  obtain ⟨a1, rfl, g5⟩ := zi g4; clear g4
  obtain ⟨c8, c9, rfl, g6⟩ := zb g5; clear g5
  obtain ⟨a2, rfl, g7⟩ := zi g6; clear g6
  obtain ⟨rfl, g8⟩ := zg g7; clear g7
  obtain ⟨v10, c11, rfl, g9⟩ := zb g8; clear g8
  obtain ⟨a3, rfl, g10⟩ := j9 g9; clear g9
  obtain ⟨v12, c13, rfl, g11⟩ := zb g10; clear g10
  obtain ⟨a4, rfl, g12⟩ := zi g11; clear g11
  obtain ⟨rfl, g13⟩ := zg g12; clear g12
  obtain ⟨rfl, g14⟩ := zg g13; clear g13
  clear h
  cases g14
  exact ⟨rfl, rfl⟩
noncomputable def F59_e (N : Nat) : Ent Try.prog := zC (ze Try.prog) (zk _) zn 59 Try.f59 Try.func59 rfl F59_an (lam N []) (zq (l := []) an (by kernel_rfl)) (zcI N) (fun _ => ⟨rfl, rfl⟩) (F59_text N) (F59_pat N) (F59_parF N)
def zP : Nat → Keep × Keep := anL [(12, ⟨[2, 4, 5, 14, 17], [(15, 38), (16, 30)], [5, 34], [(1, 38), (3, 25)], [], [], [], [34], false⟩, ⟨[2, 4, 5, 14], [(15, 38), (16, 30)], [5, 34], [(3, 25)], [], [], [], [34], false⟩), (22, ⟨[2, 4, 5, 14, 17, 18, 19, 49], [(15, 38), (16, 30)], [5, 18, 34], [(1, 38), (3, 25)], [], [], [], [34], true⟩, ⟨[2, 4, 5, 14, 17, 18, 19], [(15, 38), (16, 30)], [5, 18, 34], [(1, 38), (3, 25)], [], [], [], [34], false⟩), (27, ⟨[2, 4, 5, 14, 17, 18, 19, 20, 63], [(15, 38), (16, 30)], [5, 18, 34], [(1, 38), (3, 25)], [], [], [], [34], true⟩, ⟨[2, 4, 5, 14, 17, 18, 19], [(15, 38), (16, 30)], [5, 18, 34], [(1, 38), (3, 25)], [], [], [], [34], false⟩), (28, ⟨[2, 4, 5, 14, 17, 18, 19, 20], [(15, 38), (16, 30)], [5, 18, 34], [(1, 38), (3, 25)], [], [], [], [34], true⟩, ⟨[2, 4, 5, 14, 17, 18, 19], [(15, 38), (16, 30)], [5, 18, 34], [(1, 38), (3, 25)], [], [], [], [34], false⟩), (29, ⟨[2, 4, 5, 14, 17, 18, 19, 20, 66], [(15, 38), (16, 30)], [5, 18, 34], [(1, 38), (3, 25)], [], [], [], [34], true⟩, ⟨[2, 4, 5, 14, 17, 18, 19], [(15, 38), (16, 30)], [5, 18, 34], [(1, 38), (3, 25)], [], [], [], [34], false⟩), (39, ⟨[2, 4, 5, 14, 21], [(15, 38), (16, 30)], [5, 34], [(3, 25)], [], [], [], [34], false⟩, ⟨[2], [(15, 38), (16, 30)], [], [], [], [], [], [], false⟩)]
noncomputable def zfY (N : Nat) : GamK := gam (P := Try.prog) [F55_e N, F56a_e N, F57_e N, F14_e N, F58a_e N, F59_e N]
noncomputable def zX (N : Nat) : LSpec where
  X := (List (List AV)) × (List (List AV)) × (List (List AV)) × Int × Int × Nat × Int × (List (List AV)) × Int × Int × (List AV)
  Y := ((List (List AV)) × (List (List AV)) × Int)
  p := fun s => rdS 207 0 [(15, .tok 38 1280000960), (16, .tok 30 1280001024), (3, .lst 25), (2, .int .i64), (4, .int .i64), (5, .ptr 5 0), (14, .vs0 34 1), (21, .int .i64)] [(5, .cells [.lst 4, .int .i64, .int .i64]), (34, .tt)] s fun ⟨a0, a1, a2, a3, a4, _, a5, a6, _⟩ ⟨⟨a7, a8, a9, _⟩, a10, _⟩ => (a0, a1, a2, a3, a4, a5, a6, a7, a8, a9, a10)
  st := fun u39 => mkS 207 [(15, (AV.list 38 u39.1 (some 1280000960))), (16, (AV.list 30 u39.2.1 (some 1280001024))), (3, (AV.list 25 u39.2.2.1 none)), (2, (AV.v (.int .i64 u39.2.2.2.1))), (4, (AV.v (.int .i64 u39.2.2.2.2.1))), (5, (AV.ptr 5 0)), (14, (AV.vs 34 0 u39.2.2.2.2.2.1 1)), (21, (AV.v (.int .i64 u39.2.2.2.2.2.2.1)))] [(5, [(AV.list 4 u39.2.2.2.2.2.2.2.1 none), (AV.v (.int .i64 u39.2.2.2.2.2.2.2.2.1)), (AV.v (.int .i64 u39.2.2.2.2.2.2.2.2.2.1))]), (34, u39.2.2.2.2.2.2.2.2.2.2)] (zP 39).1.toks 0
  out := fun y => (.exit 3, mkS 207 [(15, (AV.list 38 y.1 (some 1280000960))), (16, (AV.list 30 y.2.1 (some 1280001024))), (2, (AV.v (.int .i64 y.2.2)))] [] (zP 39).2.toks 0)
  sp := fun y α k => k (.exit 3, mkS 207 [(15, (AV.list 38 y.1 (some 1280000960))), (16, (AV.list 30 y.2.1 (some 1280001024))), (2, (AV.v (.int .i64 y.2.2)))] [] (zP 39).2.toks 0)
  spe := fun y α k => rfl
  b := fun u39 α kn ke => (match (decide (u39.2.2.2.2.2.2.1 < (u39.2.2.1.length : Int))) with | true => (match zdx N (u39.2.2.2.2.2.1, u39.2.2.2.2.2.2.1, (u39.2.2.2.2.2.2.2.2.2.2.map dat0)) with | some y81 => (match y81.1 with | true => (kn (u39.1, u39.2.1, u39.2.2.1, u39.2.2.2.1, u39.2.2.2.2.1, u39.2.2.2.2.2.1, (i64 (u39.2.2.2.2.2.2.1 + 1)), u39.2.2.2.2.2.2.2.1, u39.2.2.2.2.2.2.2.2.1, u39.2.2.2.2.2.2.2.2.2.1, (y81.2.map dat0))) | false => (if 0 ≤ u39.2.2.2.2.2.2.1 then (match u39.2.2.1[u39.2.2.2.2.2.2.1.toNat]? with | some c82 => (match Rrd0 c82 with | some e83 => (match zmf N (u39.2.2.2.2.2.2.2.1, u39.2.2.2.2.2.2.2.2.1, u39.2.2.2.2.2.2.2.2.2.1, e83, u39.2.2.2.2.1) with | some y84 => (match (!y84) with | true => (kn (u39.1, u39.2.1, u39.2.2.1, u39.2.2.2.1, u39.2.2.2.2.1, u39.2.2.2.2.2.1, (i64 (u39.2.2.2.2.2.2.1 + 1)), u39.2.2.2.2.2.2.2.1, u39.2.2.2.2.2.2.2.2.1, u39.2.2.2.2.2.2.2.2.2.1, (y81.2.map dat0))) | false => (if 0 ≤ u39.2.2.2.2.2.2.1 then (match u39.2.2.1[u39.2.2.2.2.2.2.1.toNat]? with | some c85 => (match Rrd1 (c85.drop 0) with | some e86 => (if 0 ≤ u39.2.2.2.2.2.2.1 then (match u39.2.2.1[u39.2.2.2.2.2.2.1.toNat]? with | some c87 => (match Rrd0 c87 with | some e88 => (match zdW N (u39.2.2.2.2.2.2.2.1, u39.2.2.2.2.2.2.2.2.1, u39.2.2.2.2.2.2.2.2.2.1, e88) with | some y89 => (if 0 ≤ u39.2.2.2.2.2.2.1 then (match u39.2.2.1[u39.2.2.2.2.2.2.1.toNat]? with | some c90 => (match Rrd0 c90 with | some e91 => (if (u39.2.1.length + [(Ren6 ((i64 (u39.2.2.2.1 + (u39.2.1.length : Int))), 1, (i64 (u39.2.2.2.1 + (u39.2.1.length : Int))), u39.2.2.2.2.1, y89, e91.1, e91.2.1, e91.2.2.1, e91.2.2.2.1, e91.2.2.2.2.1, e91.2.2.2.2.2.1, e91.2.2.2.2.2.2.1, e91.2.2.2.2.2.2.2.1, e91.2.2.2.2.2.2.2.2.1, e91.2.2.2.2.2.2.2.2.2.1, e91.2.2.2.2.2.2.2.2.2.2.1, e91.2.2.2.2.2.2.2.2.2.2.2.1, e91.2.2.2.2.2.2.2.2.2.2.2.2.1, e91.2.2.2.2.2.2.2.2.2.2.2.2.2.1, e91.2.2.2.2.2.2.2.2.2.2.2.2.2.2.1, e91.2.2.2.2.2.2.2.2.2.2.2.2.2.2.2.1, e91.2.2.2.2.2.2.2.2.2.2.2.2.2.2.2.2.1, e91.2.2.2.2.2.2.2.2.2.2.2.2.2.2.2.2.2.1, e91.2.2.2.2.2.2.2.2.2.2.2.2.2.2.2.2.2.2.1, e91.2.2.2.2.2.2.2.2.2.2.2.2.2.2.2.2.2.2.2.1, e91.2.2.2.2.2.2.2.2.2.2.2.2.2.2.2.2.2.2.2.2.1, e91.2.2.2.2.2.2.2.2.2.2.2.2.2.2.2.2.2.2.2.2.2.1, e91.2.2.2.2.2.2.2.2.2.2.2.2.2.2.2.2.2.2.2.2.2.2.1, e91.2.2.2.2.2.2.2.2.2.2.2.2.2.2.2.2.2.2.2.2.2.2.2.1, e91.2.2.2.2.2.2.2.2.2.2.2.2.2.2.2.2.2.2.2.2.2.2.2.2.1, ()))].length) * 288 ≤ zl then (if (u39.1.length + [(Ren3 ((i64 (u39.2.2.2.1 + (u39.2.1.length : Int))), false, e86.1, e86.2.1, e86.2.2.1, e86.2.2.2.1, e86.2.2.2.2.1, e86.2.2.2.2.2.1, e86.2.2.2.2.2.2.1, e86.2.2.2.2.2.2.2.1, e86.2.2.2.2.2.2.2.2.1, y89, e91.1, e91.2.1, e91.2.2.1, e91.2.2.2.1, e91.2.2.2.2.1, e91.2.2.2.2.2.1, e91.2.2.2.2.2.2.1, e91.2.2.2.2.2.2.2.1, e91.2.2.2.2.2.2.2.2.1, e91.2.2.2.2.2.2.2.2.2.1, e91.2.2.2.2.2.2.2.2.2.2.1, e91.2.2.2.2.2.2.2.2.2.2.2.1, e91.2.2.2.2.2.2.2.2.2.2.2.2.1, e91.2.2.2.2.2.2.2.2.2.2.2.2.2.1, e91.2.2.2.2.2.2.2.2.2.2.2.2.2.2.1, e91.2.2.2.2.2.2.2.2.2.2.2.2.2.2.2.1, e91.2.2.2.2.2.2.2.2.2.2.2.2.2.2.2.2.1, e91.2.2.2.2.2.2.2.2.2.2.2.2.2.2.2.2.2.1, e91.2.2.2.2.2.2.2.2.2.2.2.2.2.2.2.2.2.2.1, e91.2.2.2.2.2.2.2.2.2.2.2.2.2.2.2.2.2.2.2.1, e91.2.2.2.2.2.2.2.2.2.2.2.2.2.2.2.2.2.2.2.2.1, e91.2.2.2.2.2.2.2.2.2.2.2.2.2.2.2.2.2.2.2.2.2.1, e91.2.2.2.2.2.2.2.2.2.2.2.2.2.2.2.2.2.2.2.2.2.2.1, e91.2.2.2.2.2.2.2.2.2.2.2.2.2.2.2.2.2.2.2.2.2.2.2.1, e91.2.2.2.2.2.2.2.2.2.2.2.2.2.2.2.2.2.2.2.2.2.2.2.2.1, u39.2.2.2.2.1, ()))].length) * 384 ≤ zl then (kn ((u39.1 ++ [(Ren3 ((i64 (u39.2.2.2.1 + (u39.2.1.length : Int))), false, e86.1, e86.2.1, e86.2.2.1, e86.2.2.2.1, e86.2.2.2.2.1, e86.2.2.2.2.2.1, e86.2.2.2.2.2.2.1, e86.2.2.2.2.2.2.2.1, e86.2.2.2.2.2.2.2.2.1, y89, e91.1, e91.2.1, e91.2.2.1, e91.2.2.2.1, e91.2.2.2.2.1, e91.2.2.2.2.2.1, e91.2.2.2.2.2.2.1, e91.2.2.2.2.2.2.2.1, e91.2.2.2.2.2.2.2.2.1, e91.2.2.2.2.2.2.2.2.2.1, e91.2.2.2.2.2.2.2.2.2.2.1, e91.2.2.2.2.2.2.2.2.2.2.2.1, e91.2.2.2.2.2.2.2.2.2.2.2.2.1, e91.2.2.2.2.2.2.2.2.2.2.2.2.2.1, e91.2.2.2.2.2.2.2.2.2.2.2.2.2.2.1, e91.2.2.2.2.2.2.2.2.2.2.2.2.2.2.2.1, e91.2.2.2.2.2.2.2.2.2.2.2.2.2.2.2.2.1, e91.2.2.2.2.2.2.2.2.2.2.2.2.2.2.2.2.2.1, e91.2.2.2.2.2.2.2.2.2.2.2.2.2.2.2.2.2.2.1, e91.2.2.2.2.2.2.2.2.2.2.2.2.2.2.2.2.2.2.2.1, e91.2.2.2.2.2.2.2.2.2.2.2.2.2.2.2.2.2.2.2.2.1, e91.2.2.2.2.2.2.2.2.2.2.2.2.2.2.2.2.2.2.2.2.2.1, e91.2.2.2.2.2.2.2.2.2.2.2.2.2.2.2.2.2.2.2.2.2.2.1, e91.2.2.2.2.2.2.2.2.2.2.2.2.2.2.2.2.2.2.2.2.2.2.2.1, e91.2.2.2.2.2.2.2.2.2.2.2.2.2.2.2.2.2.2.2.2.2.2.2.2.1, u39.2.2.2.2.1, ()))]), (u39.2.1 ++ [(Ren6 ((i64 (u39.2.2.2.1 + (u39.2.1.length : Int))), 1, (i64 (u39.2.2.2.1 + (u39.2.1.length : Int))), u39.2.2.2.2.1, y89, e91.1, e91.2.1, e91.2.2.1, e91.2.2.2.1, e91.2.2.2.2.1, e91.2.2.2.2.2.1, e91.2.2.2.2.2.2.1, e91.2.2.2.2.2.2.2.1, e91.2.2.2.2.2.2.2.2.1, e91.2.2.2.2.2.2.2.2.2.1, e91.2.2.2.2.2.2.2.2.2.2.1, e91.2.2.2.2.2.2.2.2.2.2.2.1, e91.2.2.2.2.2.2.2.2.2.2.2.2.1, e91.2.2.2.2.2.2.2.2.2.2.2.2.2.1, e91.2.2.2.2.2.2.2.2.2.2.2.2.2.2.1, e91.2.2.2.2.2.2.2.2.2.2.2.2.2.2.2.1, e91.2.2.2.2.2.2.2.2.2.2.2.2.2.2.2.2.1, e91.2.2.2.2.2.2.2.2.2.2.2.2.2.2.2.2.2.1, e91.2.2.2.2.2.2.2.2.2.2.2.2.2.2.2.2.2.2.1, e91.2.2.2.2.2.2.2.2.2.2.2.2.2.2.2.2.2.2.2.1, e91.2.2.2.2.2.2.2.2.2.2.2.2.2.2.2.2.2.2.2.2.1, e91.2.2.2.2.2.2.2.2.2.2.2.2.2.2.2.2.2.2.2.2.2.1, e91.2.2.2.2.2.2.2.2.2.2.2.2.2.2.2.2.2.2.2.2.2.2.1, e91.2.2.2.2.2.2.2.2.2.2.2.2.2.2.2.2.2.2.2.2.2.2.2.1, e91.2.2.2.2.2.2.2.2.2.2.2.2.2.2.2.2.2.2.2.2.2.2.2.2.1, ()))]), u39.2.2.1, u39.2.2.2.1, u39.2.2.2.2.1, u39.2.2.2.2.2.1, (i64 (u39.2.2.2.2.2.2.1 + 1)), u39.2.2.2.2.2.2.2.1, u39.2.2.2.2.2.2.2.2.1, u39.2.2.2.2.2.2.2.2.2.1, (y81.2.map dat0))) else none) else none) | none => none) | none => none) else none) | none => none) | none => none) | none => none) else none) | none => none) | none => none) else none)) | none => none) | none => none) | none => none) else none)) | none => none) | false => (ke (u39.1, u39.2.1, u39.2.2.2.1)))
noncomputable abbrev zjn (N : Nat) (x : (List (List AV)) × (List (List AV)) × (List (List AV)) × Int × Int × Nat × Int × (List (List AV)) × Int × Int × (List AV)) : Option (((List (List AV)) × (List (List AV)) × Int)) := (zX N).L N x
noncomputable def jf (N : Nat) : LSpec where
  X := (List (List AV)) × (List (List AV)) × (List (List AV)) × (List (List AV)) × Int × Int × Nat × Int × Int × Int × Bool × (List (List AV)) × Int × Int × RT3 × (List AV)
  Y := ((List (List AV)) × (List (List AV)) × (List (List AV)) × (List (List AV)) × Int × Int × Nat × Int × Int × (List (List AV)) × Int × Int × RT3 × (List AV))
  p := fun s => rdS 207 0 [(15, .tok 38 1280000960), (16, .tok 30 1280001024), (1, .lst 38), (3, .lst 25), (2, .int .i64), (4, .int .i64), (5, .ptr 5 0), (14, .vs0 34 1), (17, .int .i64), (18, .ptr 18 0), (19, .int .i64), (20, .int .i64), (66, .bool)] [(5, .cells [.lst 4, .int .i64, .int .i64]), (18, .row RK3), (34, .tt)] s fun ⟨a0, a1, a2, a3, a4, a5, _, a6, a7, _, a8, a9, a10, _⟩ ⟨⟨a11, a12, a13, _⟩, a14, a15, _⟩ => (a0, a1, a2, a3, a4, a5, a6, a7, a8, a9, a10, a11, a12, a13, a14, a15)
  st := fun u29 => mkS 207 [(15, (AV.list 38 u29.1 (some 1280000960))), (16, (AV.list 30 u29.2.1 (some 1280001024))), (1, (AV.list 38 u29.2.2.1 none)), (3, (AV.list 25 u29.2.2.2.1 none)), (2, (AV.v (.int .i64 u29.2.2.2.2.1))), (4, (AV.v (.int .i64 u29.2.2.2.2.2.1))), (5, (AV.ptr 5 0)), (14, (AV.vs 34 0 u29.2.2.2.2.2.2.1 1)), (17, (AV.v (.int .i64 u29.2.2.2.2.2.2.2.1))), (18, (AV.ptr 18 0)), (19, (AV.v (.int .i64 u29.2.2.2.2.2.2.2.2.1))), (20, (AV.v (.int .i64 u29.2.2.2.2.2.2.2.2.2.1))), (66, (AV.v (.bool u29.2.2.2.2.2.2.2.2.2.2.1)))] [(5, [(AV.list 4 u29.2.2.2.2.2.2.2.2.2.2.2.1 none), (AV.v (.int .i64 u29.2.2.2.2.2.2.2.2.2.2.2.2.1)), (AV.v (.int .i64 u29.2.2.2.2.2.2.2.2.2.2.2.2.2.1))]), (18, (Ren3 u29.2.2.2.2.2.2.2.2.2.2.2.2.2.2.1)), (34, u29.2.2.2.2.2.2.2.2.2.2.2.2.2.2.2)] (zP 29).1.toks 0
  out := fun y => (.normal, mkS 207 [(15, (AV.list 38 y.1 (some 1280000960))), (16, (AV.list 30 y.2.1 (some 1280001024))), (1, (AV.list 38 y.2.2.1 none)), (3, (AV.list 25 y.2.2.2.1 none)), (2, (AV.v (.int .i64 y.2.2.2.2.1))), (4, (AV.v (.int .i64 y.2.2.2.2.2.1))), (5, (AV.ptr 5 0)), (14, (AV.vs 34 0 y.2.2.2.2.2.2.1 1)), (17, (AV.v (.int .i64 y.2.2.2.2.2.2.2.1))), (18, (AV.ptr 18 0)), (19, (AV.v (.int .i64 y.2.2.2.2.2.2.2.2.1)))] [(5, [(AV.list 4 y.2.2.2.2.2.2.2.2.2.1 none), (AV.v (.int .i64 y.2.2.2.2.2.2.2.2.2.2.1)), (AV.v (.int .i64 y.2.2.2.2.2.2.2.2.2.2.2.1))]), (18, (Ren3 y.2.2.2.2.2.2.2.2.2.2.2.2.1)), (34, y.2.2.2.2.2.2.2.2.2.2.2.2.2)] (zP 29).2.toks 0)
  sp := fun y α k => k (.normal, mkS 207 [(15, (AV.list 38 y.1 (some 1280000960))), (16, (AV.list 30 y.2.1 (some 1280001024))), (1, (AV.list 38 y.2.2.1 none)), (3, (AV.list 25 y.2.2.2.1 none)), (2, (AV.v (.int .i64 y.2.2.2.2.1))), (4, (AV.v (.int .i64 y.2.2.2.2.2.1))), (5, (AV.ptr 5 0)), (14, (AV.vs 34 0 y.2.2.2.2.2.2.1 1)), (17, (AV.v (.int .i64 y.2.2.2.2.2.2.2.1))), (18, (AV.ptr 18 0)), (19, (AV.v (.int .i64 y.2.2.2.2.2.2.2.2.1)))] [(5, [(AV.list 4 y.2.2.2.2.2.2.2.2.2.1 none), (AV.v (.int .i64 y.2.2.2.2.2.2.2.2.2.2.1)), (AV.v (.int .i64 y.2.2.2.2.2.2.2.2.2.2.2.1))]), (18, (Ren3 y.2.2.2.2.2.2.2.2.2.2.2.2.1)), (34, y.2.2.2.2.2.2.2.2.2.2.2.2.2)] (zP 29).2.toks 0)
  spe := fun y α k => rfl
  b := fun u29 α kn ke => (match u29.2.2.2.2.2.2.2.2.2.2.1 with | true => (ke (u29.1, u29.2.1, u29.2.2.1, u29.2.2.2.1, u29.2.2.2.2.1, u29.2.2.2.2.2.1, u29.2.2.2.2.2.2.1, u29.2.2.2.2.2.2.2.1, 3, u29.2.2.2.2.2.2.2.2.2.2.2.1, u29.2.2.2.2.2.2.2.2.2.2.2.2.1, u29.2.2.2.2.2.2.2.2.2.2.2.2.2.1, (u29.2.2.2.2.2.2.2.2.2.2.2.2.2.2.1.1, true, u29.2.2.2.2.2.2.2.2.2.2.2.2.2.2.1.2.2), (u29.2.2.2.2.2.2.2.2.2.2.2.2.2.2.2.map dat0))) | false => (if 0 ≤ u29.2.2.2.2.2.2.2.2.2.1 then (match u29.2.2.2.1[u29.2.2.2.2.2.2.2.2.2.1.toNat]? with | some c43 => (match Rrd0 c43 with | some e44 => (match zhC N (u29.2.2.2.2.2.2.2.2.2.2.2.1, u29.2.2.2.2.2.2.2.2.2.2.2.2.1, u29.2.2.2.2.2.2.2.2.2.2.2.2.2.1, (zac u29.2.2.2.2.2.2.2.2.2.2.2.2.2.2.1), e44) with | some y45 => (match y45 with | true => (match (decide ((i64 (u29.2.2.2.2.2.1 - u29.2.2.2.2.2.2.2.2.2.2.2.2.2.2.1.2.2.2.2.2.2.2.2.2.2.2.2.2.2.2.2.2.2.2.2.2.2.2.2.2.2.2.2.2.2.2.2.2.2.2.2.2.1)) ≥ u29.2.2.2.2.2.2.2.2.2.2.2.2.2.1)) with | true => (if 0 ≤ u29.2.2.2.2.2.2.2.2.2.1 then (match u29.2.2.2.1[u29.2.2.2.2.2.2.2.2.2.1.toNat]? with | some c46 => (match Rrd0 c46 with | some e47 => (match zdW N (u29.2.2.2.2.2.2.2.2.2.2.2.1, u29.2.2.2.2.2.2.2.2.2.2.2.2.1, u29.2.2.2.2.2.2.2.2.2.2.2.2.2.1, e47) with | some y48 => (if 0 ≤ u29.2.2.2.2.2.2.2.2.2.1 then (match u29.2.2.2.1[u29.2.2.2.2.2.2.2.2.2.1.toNat]? with | some c49 => (match Rrd0 c49 with | some e50 => (ke (u29.1, u29.2.1, u29.2.2.1, u29.2.2.2.1, u29.2.2.2.2.1, u29.2.2.2.2.2.1, u29.2.2.2.2.2.2.1, u29.2.2.2.2.2.2.2.1, 2, u29.2.2.2.2.2.2.2.2.2.2.2.1, u29.2.2.2.2.2.2.2.2.2.2.2.2.1, u29.2.2.2.2.2.2.2.2.2.2.2.2.2.1, (u29.2.2.2.2.2.2.2.2.2.2.2.2.2.2.1.1, u29.2.2.2.2.2.2.2.2.2.2.2.2.2.2.1.2.1, u29.2.2.2.2.2.2.2.2.2.2.2.2.2.2.1.2.2.1, u29.2.2.2.2.2.2.2.2.2.2.2.2.2.2.1.2.2.2.1, u29.2.2.2.2.2.2.2.2.2.2.2.2.2.2.1.2.2.2.2.1, u29.2.2.2.2.2.2.2.2.2.2.2.2.2.2.1.2.2.2.2.2.1, u29.2.2.2.2.2.2.2.2.2.2.2.2.2.2.1.2.2.2.2.2.2.1, u29.2.2.2.2.2.2.2.2.2.2.2.2.2.2.1.2.2.2.2.2.2.2.1, u29.2.2.2.2.2.2.2.2.2.2.2.2.2.2.1.2.2.2.2.2.2.2.2.1, u29.2.2.2.2.2.2.2.2.2.2.2.2.2.2.1.2.2.2.2.2.2.2.2.2.1, u29.2.2.2.2.2.2.2.2.2.2.2.2.2.2.1.2.2.2.2.2.2.2.2.2.2.1, y48, e50.1, e50.2.1, e50.2.2.1, e50.2.2.2.1, e50.2.2.2.2.1, e50.2.2.2.2.2.1, e50.2.2.2.2.2.2.1, e50.2.2.2.2.2.2.2.1, e50.2.2.2.2.2.2.2.2.1, e50.2.2.2.2.2.2.2.2.2.1, e50.2.2.2.2.2.2.2.2.2.2.1, e50.2.2.2.2.2.2.2.2.2.2.2.1, e50.2.2.2.2.2.2.2.2.2.2.2.2.1, e50.2.2.2.2.2.2.2.2.2.2.2.2.2.1, e50.2.2.2.2.2.2.2.2.2.2.2.2.2.2.1, e50.2.2.2.2.2.2.2.2.2.2.2.2.2.2.2.1, e50.2.2.2.2.2.2.2.2.2.2.2.2.2.2.2.2.1, e50.2.2.2.2.2.2.2.2.2.2.2.2.2.2.2.2.2.1, e50.2.2.2.2.2.2.2.2.2.2.2.2.2.2.2.2.2.2.1, e50.2.2.2.2.2.2.2.2.2.2.2.2.2.2.2.2.2.2.2.1, e50.2.2.2.2.2.2.2.2.2.2.2.2.2.2.2.2.2.2.2.2.1, e50.2.2.2.2.2.2.2.2.2.2.2.2.2.2.2.2.2.2.2.2.2.1, e50.2.2.2.2.2.2.2.2.2.2.2.2.2.2.2.2.2.2.2.2.2.2.1, e50.2.2.2.2.2.2.2.2.2.2.2.2.2.2.2.2.2.2.2.2.2.2.2.1, e50.2.2.2.2.2.2.2.2.2.2.2.2.2.2.2.2.2.2.2.2.2.2.2.2.1, u29.2.2.2.2.2.2.2.2.2.2.2.2.2.2.1.2.2.2.2.2.2.2.2.2.2.2.2.2.2.2.2.2.2.2.2.2.2.2.2.2.2.2.2.2.2.2.2.2.2.2.2.2), (u29.2.2.2.2.2.2.2.2.2.2.2.2.2.2.2.map dat0))) | none => none) | none => none) else none) | none => none) | none => none) | none => none) else none) | false => (ke (u29.1, u29.2.1, u29.2.2.1, u29.2.2.2.1, u29.2.2.2.2.1, u29.2.2.2.2.2.1, u29.2.2.2.2.2.2.1, u29.2.2.2.2.2.2.2.1, u29.2.2.2.2.2.2.2.2.1, u29.2.2.2.2.2.2.2.2.2.2.2.1, u29.2.2.2.2.2.2.2.2.2.2.2.2.1, u29.2.2.2.2.2.2.2.2.2.2.2.2.2.1, u29.2.2.2.2.2.2.2.2.2.2.2.2.2.2.1, (u29.2.2.2.2.2.2.2.2.2.2.2.2.2.2.2.map dat0)))) | false => (ke (u29.1, u29.2.1, u29.2.2.1, u29.2.2.2.1, u29.2.2.2.2.1, u29.2.2.2.2.2.1, u29.2.2.2.2.2.2.1, u29.2.2.2.2.2.2.2.1, u29.2.2.2.2.2.2.2.2.1, u29.2.2.2.2.2.2.2.2.2.2.2.1, u29.2.2.2.2.2.2.2.2.2.2.2.2.1, u29.2.2.2.2.2.2.2.2.2.2.2.2.2.1, u29.2.2.2.2.2.2.2.2.2.2.2.2.2.2.1, (u29.2.2.2.2.2.2.2.2.2.2.2.2.2.2.2.map dat0)))) | none => none) | none => none) | none => none) else none))
noncomputable abbrev zdC (N : Nat) (x : (List (List AV)) × (List (List AV)) × (List (List AV)) × (List (List AV)) × Int × Int × Nat × Int × Int × Int × Bool × (List (List AV)) × Int × Int × RT3 × (List AV)) : Option (((List (List AV)) × (List (List AV)) × (List (List AV)) × (List (List AV)) × Int × Int × Nat × Int × Int × (List (List AV)) × Int × Int × RT3 × (List AV))) := (jf N).L N x
noncomputable def jh (N : Nat) : LSpec where
  X := (List (List AV)) × (List (List AV)) × (List (List AV)) × (List (List AV)) × Int × Int × Nat × Int × Int × Int × (List (List AV)) × Int × Int × RT3 × (List AV)
  Y := ((List (List AV)) × (List (List AV)) × (List (List AV)) × (List (List AV)) × Int × Int × Nat × Int × Int × (List (List AV)) × Int × Int × RT3 × (List AV))
  p := fun s => rdS 207 0 [(15, .tok 38 1280000960), (16, .tok 30 1280001024), (1, .lst 38), (3, .lst 25), (2, .int .i64), (4, .int .i64), (5, .ptr 5 0), (14, .vs0 34 1), (17, .int .i64), (18, .ptr 18 0), (19, .int .i64), (20, .int .i64)] [(5, .cells [.lst 4, .int .i64, .int .i64]), (18, .row RK3), (34, .tt)] s fun ⟨a0, a1, a2, a3, a4, a5, _, a6, a7, _, a8, a9, _⟩ ⟨⟨a10, a11, a12, _⟩, a13, a14, _⟩ => (a0, a1, a2, a3, a4, a5, a6, a7, a8, a9, a10, a11, a12, a13, a14)
  st := fun u28 => mkS 207 [(15, (AV.list 38 u28.1 (some 1280000960))), (16, (AV.list 30 u28.2.1 (some 1280001024))), (1, (AV.list 38 u28.2.2.1 none)), (3, (AV.list 25 u28.2.2.2.1 none)), (2, (AV.v (.int .i64 u28.2.2.2.2.1))), (4, (AV.v (.int .i64 u28.2.2.2.2.2.1))), (5, (AV.ptr 5 0)), (14, (AV.vs 34 0 u28.2.2.2.2.2.2.1 1)), (17, (AV.v (.int .i64 u28.2.2.2.2.2.2.2.1))), (18, (AV.ptr 18 0)), (19, (AV.v (.int .i64 u28.2.2.2.2.2.2.2.2.1))), (20, (AV.v (.int .i64 u28.2.2.2.2.2.2.2.2.2.1)))] [(5, [(AV.list 4 u28.2.2.2.2.2.2.2.2.2.2.1 none), (AV.v (.int .i64 u28.2.2.2.2.2.2.2.2.2.2.2.1)), (AV.v (.int .i64 u28.2.2.2.2.2.2.2.2.2.2.2.2.1))]), (18, (Ren3 u28.2.2.2.2.2.2.2.2.2.2.2.2.2.1)), (34, u28.2.2.2.2.2.2.2.2.2.2.2.2.2.2)] (zP 28).1.toks 0
  out := fun y => (.normal, mkS 207 [(15, (AV.list 38 y.1 (some 1280000960))), (16, (AV.list 30 y.2.1 (some 1280001024))), (1, (AV.list 38 y.2.2.1 none)), (3, (AV.list 25 y.2.2.2.1 none)), (2, (AV.v (.int .i64 y.2.2.2.2.1))), (4, (AV.v (.int .i64 y.2.2.2.2.2.1))), (5, (AV.ptr 5 0)), (14, (AV.vs 34 0 y.2.2.2.2.2.2.1 1)), (17, (AV.v (.int .i64 y.2.2.2.2.2.2.2.1))), (18, (AV.ptr 18 0)), (19, (AV.v (.int .i64 y.2.2.2.2.2.2.2.2.1)))] [(5, [(AV.list 4 y.2.2.2.2.2.2.2.2.2.1 none), (AV.v (.int .i64 y.2.2.2.2.2.2.2.2.2.2.1)), (AV.v (.int .i64 y.2.2.2.2.2.2.2.2.2.2.2.1))]), (18, (Ren3 y.2.2.2.2.2.2.2.2.2.2.2.2.1)), (34, y.2.2.2.2.2.2.2.2.2.2.2.2.2)] (zP 28).2.toks 0)
  sp := fun y α k => k (.normal, mkS 207 [(15, (AV.list 38 y.1 (some 1280000960))), (16, (AV.list 30 y.2.1 (some 1280001024))), (1, (AV.list 38 y.2.2.1 none)), (3, (AV.list 25 y.2.2.2.1 none)), (2, (AV.v (.int .i64 y.2.2.2.2.1))), (4, (AV.v (.int .i64 y.2.2.2.2.2.1))), (5, (AV.ptr 5 0)), (14, (AV.vs 34 0 y.2.2.2.2.2.2.1 1)), (17, (AV.v (.int .i64 y.2.2.2.2.2.2.2.1))), (18, (AV.ptr 18 0)), (19, (AV.v (.int .i64 y.2.2.2.2.2.2.2.2.1)))] [(5, [(AV.list 4 y.2.2.2.2.2.2.2.2.2.1 none), (AV.v (.int .i64 y.2.2.2.2.2.2.2.2.2.2.1)), (AV.v (.int .i64 y.2.2.2.2.2.2.2.2.2.2.2.1))]), (18, (Ren3 y.2.2.2.2.2.2.2.2.2.2.2.2.1)), (34, y.2.2.2.2.2.2.2.2.2.2.2.2.2)] (zP 28).2.toks 0)
  spe := fun y α k => rfl
  b := fun u28 α kn ke => (match (decide (u28.2.2.2.2.2.2.2.2.2.1 < 0)) with | true => (match zdC N (u28.1, u28.2.1, u28.2.2.1, u28.2.2.2.1, u28.2.2.2.2.1, u28.2.2.2.2.2.1, u28.2.2.2.2.2.2.1, u28.2.2.2.2.2.2.2.1, u28.2.2.2.2.2.2.2.2.1, u28.2.2.2.2.2.2.2.2.2.1, true, u28.2.2.2.2.2.2.2.2.2.2.1, u28.2.2.2.2.2.2.2.2.2.2.2.1, u28.2.2.2.2.2.2.2.2.2.2.2.2.1, u28.2.2.2.2.2.2.2.2.2.2.2.2.2.1, (u28.2.2.2.2.2.2.2.2.2.2.2.2.2.2.map dat0)) with | some y61 => (ke (y61.1, y61.2.1, y61.2.2.1, y61.2.2.2.1, y61.2.2.2.2.1, y61.2.2.2.2.2.1, y61.2.2.2.2.2.2.1, y61.2.2.2.2.2.2.2.1, y61.2.2.2.2.2.2.2.2.1, y61.2.2.2.2.2.2.2.2.2.1, y61.2.2.2.2.2.2.2.2.2.2.1, y61.2.2.2.2.2.2.2.2.2.2.2.1, y61.2.2.2.2.2.2.2.2.2.2.2.2.1, (y61.2.2.2.2.2.2.2.2.2.2.2.2.2.map dat0))) | none => none) | false => (if 0 ≤ u28.2.2.2.2.2.2.2.2.2.1 then (match u28.2.2.2.1[u28.2.2.2.2.2.2.2.2.2.1.toNat]? with | some c62 => (match Rrd0 c62 with | some e63 => (match zdW N (u28.2.2.2.2.2.2.2.2.2.2.1, u28.2.2.2.2.2.2.2.2.2.2.2.1, u28.2.2.2.2.2.2.2.2.2.2.2.2.1, e63) with | some y64 => (match zdC N (u28.1, u28.2.1, u28.2.2.1, u28.2.2.2.1, u28.2.2.2.2.1, u28.2.2.2.2.2.1, u28.2.2.2.2.2.2.1, u28.2.2.2.2.2.2.2.1, u28.2.2.2.2.2.2.2.2.1, u28.2.2.2.2.2.2.2.2.2.1, (y64 == 0), u28.2.2.2.2.2.2.2.2.2.2.1, u28.2.2.2.2.2.2.2.2.2.2.2.1, u28.2.2.2.2.2.2.2.2.2.2.2.2.1, u28.2.2.2.2.2.2.2.2.2.2.2.2.2.1, (u28.2.2.2.2.2.2.2.2.2.2.2.2.2.2.map dat0)) with | some y65 => (ke (y65.1, y65.2.1, y65.2.2.1, y65.2.2.2.1, y65.2.2.2.2.1, y65.2.2.2.2.2.1, y65.2.2.2.2.2.2.1, y65.2.2.2.2.2.2.2.1, y65.2.2.2.2.2.2.2.2.1, y65.2.2.2.2.2.2.2.2.2.1, y65.2.2.2.2.2.2.2.2.2.2.1, y65.2.2.2.2.2.2.2.2.2.2.2.1, y65.2.2.2.2.2.2.2.2.2.2.2.2.1, (y65.2.2.2.2.2.2.2.2.2.2.2.2.2.map dat0))) | none => none) | none => none) | none => none) | none => none) else none))
noncomputable abbrev zfQ (N : Nat) (x : (List (List AV)) × (List (List AV)) × (List (List AV)) × (List (List AV)) × Int × Int × Nat × Int × Int × Int × (List (List AV)) × Int × Int × RT3 × (List AV)) : Option (((List (List AV)) × (List (List AV)) × (List (List AV)) × (List (List AV)) × Int × Int × Nat × Int × Int × (List (List AV)) × Int × Int × RT3 × (List AV))) := (jh N).L N x
noncomputable def jd (N : Nat) : LSpec where
  X := (List (List AV)) × (List (List AV)) × (List (List AV)) × (List (List AV)) × Int × Int × Nat × Int × Int × Int × Bool × (List (List AV)) × Int × Int × RT3 × (List AV)
  Y := ((List (List AV)) × (List (List AV)) × (List (List AV)) × (List (List AV)) × Int × Int × Nat × Int × Int × (List (List AV)) × Int × Int × RT3 × (List AV))
  p := fun s => rdS 207 0 [(15, .tok 38 1280000960), (16, .tok 30 1280001024), (1, .lst 38), (3, .lst 25), (2, .int .i64), (4, .int .i64), (5, .ptr 5 0), (14, .vs0 34 1), (17, .int .i64), (18, .ptr 18 0), (19, .int .i64), (20, .int .i64), (63, .bool)] [(5, .cells [.lst 4, .int .i64, .int .i64]), (18, .row RK3), (34, .tt)] s fun ⟨a0, a1, a2, a3, a4, a5, _, a6, a7, _, a8, a9, a10, _⟩ ⟨⟨a11, a12, a13, _⟩, a14, a15, _⟩ => (a0, a1, a2, a3, a4, a5, a6, a7, a8, a9, a10, a11, a12, a13, a14, a15)
  st := fun u27 => mkS 207 [(15, (AV.list 38 u27.1 (some 1280000960))), (16, (AV.list 30 u27.2.1 (some 1280001024))), (1, (AV.list 38 u27.2.2.1 none)), (3, (AV.list 25 u27.2.2.2.1 none)), (2, (AV.v (.int .i64 u27.2.2.2.2.1))), (4, (AV.v (.int .i64 u27.2.2.2.2.2.1))), (5, (AV.ptr 5 0)), (14, (AV.vs 34 0 u27.2.2.2.2.2.2.1 1)), (17, (AV.v (.int .i64 u27.2.2.2.2.2.2.2.1))), (18, (AV.ptr 18 0)), (19, (AV.v (.int .i64 u27.2.2.2.2.2.2.2.2.1))), (20, (AV.v (.int .i64 u27.2.2.2.2.2.2.2.2.2.1))), (63, (AV.v (.bool u27.2.2.2.2.2.2.2.2.2.2.1)))] [(5, [(AV.list 4 u27.2.2.2.2.2.2.2.2.2.2.2.1 none), (AV.v (.int .i64 u27.2.2.2.2.2.2.2.2.2.2.2.2.1)), (AV.v (.int .i64 u27.2.2.2.2.2.2.2.2.2.2.2.2.2.1))]), (18, (Ren3 u27.2.2.2.2.2.2.2.2.2.2.2.2.2.2.1)), (34, u27.2.2.2.2.2.2.2.2.2.2.2.2.2.2.2)] (zP 27).1.toks 0
  out := fun y => (.normal, mkS 207 [(15, (AV.list 38 y.1 (some 1280000960))), (16, (AV.list 30 y.2.1 (some 1280001024))), (1, (AV.list 38 y.2.2.1 none)), (3, (AV.list 25 y.2.2.2.1 none)), (2, (AV.v (.int .i64 y.2.2.2.2.1))), (4, (AV.v (.int .i64 y.2.2.2.2.2.1))), (5, (AV.ptr 5 0)), (14, (AV.vs 34 0 y.2.2.2.2.2.2.1 1)), (17, (AV.v (.int .i64 y.2.2.2.2.2.2.2.1))), (18, (AV.ptr 18 0)), (19, (AV.v (.int .i64 y.2.2.2.2.2.2.2.2.1)))] [(5, [(AV.list 4 y.2.2.2.2.2.2.2.2.2.1 none), (AV.v (.int .i64 y.2.2.2.2.2.2.2.2.2.2.1)), (AV.v (.int .i64 y.2.2.2.2.2.2.2.2.2.2.2.1))]), (18, (Ren3 y.2.2.2.2.2.2.2.2.2.2.2.2.1)), (34, y.2.2.2.2.2.2.2.2.2.2.2.2.2)] (zP 27).2.toks 0)
  sp := fun y α k => k (.normal, mkS 207 [(15, (AV.list 38 y.1 (some 1280000960))), (16, (AV.list 30 y.2.1 (some 1280001024))), (1, (AV.list 38 y.2.2.1 none)), (3, (AV.list 25 y.2.2.2.1 none)), (2, (AV.v (.int .i64 y.2.2.2.2.1))), (4, (AV.v (.int .i64 y.2.2.2.2.2.1))), (5, (AV.ptr 5 0)), (14, (AV.vs 34 0 y.2.2.2.2.2.2.1 1)), (17, (AV.v (.int .i64 y.2.2.2.2.2.2.2.1))), (18, (AV.ptr 18 0)), (19, (AV.v (.int .i64 y.2.2.2.2.2.2.2.2.1)))] [(5, [(AV.list 4 y.2.2.2.2.2.2.2.2.2.1 none), (AV.v (.int .i64 y.2.2.2.2.2.2.2.2.2.2.1)), (AV.v (.int .i64 y.2.2.2.2.2.2.2.2.2.2.2.1))]), (18, (Ren3 y.2.2.2.2.2.2.2.2.2.2.2.2.1)), (34, y.2.2.2.2.2.2.2.2.2.2.2.2.2)] (zP 27).2.toks 0)
  spe := fun y α k => rfl
  b := fun u27 α kn ke => (match u27.2.2.2.2.2.2.2.2.2.2.1 with | true => (ke (u27.1, u27.2.1, u27.2.2.1, u27.2.2.2.1, u27.2.2.2.2.1, u27.2.2.2.2.2.1, u27.2.2.2.2.2.2.1, u27.2.2.2.2.2.2.2.1, u27.2.2.2.2.2.2.2.2.1, u27.2.2.2.2.2.2.2.2.2.2.2.1, u27.2.2.2.2.2.2.2.2.2.2.2.2.1, u27.2.2.2.2.2.2.2.2.2.2.2.2.2.1, u27.2.2.2.2.2.2.2.2.2.2.2.2.2.2.1, (u27.2.2.2.2.2.2.2.2.2.2.2.2.2.2.2.map dat0))) | false => (match zfQ N (u27.1, u27.2.1, u27.2.2.1, u27.2.2.2.1, u27.2.2.2.2.1, u27.2.2.2.2.2.1, u27.2.2.2.2.2.2.1, u27.2.2.2.2.2.2.2.1, u27.2.2.2.2.2.2.2.2.1, u27.2.2.2.2.2.2.2.2.2.1, u27.2.2.2.2.2.2.2.2.2.2.2.1, u27.2.2.2.2.2.2.2.2.2.2.2.2.1, u27.2.2.2.2.2.2.2.2.2.2.2.2.2.1, u27.2.2.2.2.2.2.2.2.2.2.2.2.2.2.1, (u27.2.2.2.2.2.2.2.2.2.2.2.2.2.2.2.map dat0)) with | some y68 => (ke (y68.1, y68.2.1, y68.2.2.1, y68.2.2.2.1, y68.2.2.2.2.1, y68.2.2.2.2.2.1, y68.2.2.2.2.2.2.1, y68.2.2.2.2.2.2.2.1, y68.2.2.2.2.2.2.2.2.1, y68.2.2.2.2.2.2.2.2.2.1, y68.2.2.2.2.2.2.2.2.2.2.1, y68.2.2.2.2.2.2.2.2.2.2.2.1, y68.2.2.2.2.2.2.2.2.2.2.2.2.1, (y68.2.2.2.2.2.2.2.2.2.2.2.2.2.map dat0))) | none => none))
noncomputable abbrev zdF (N : Nat) (x : (List (List AV)) × (List (List AV)) × (List (List AV)) × (List (List AV)) × Int × Int × Nat × Int × Int × Int × Bool × (List (List AV)) × Int × Int × RT3 × (List AV)) : Option (((List (List AV)) × (List (List AV)) × (List (List AV)) × (List (List AV)) × Int × Int × Nat × Int × Int × (List (List AV)) × Int × Int × RT3 × (List AV))) := (jd N).L N x
noncomputable def je (N : Nat) : LSpec where
  X := (List (List AV)) × (List (List AV)) × (List (List AV)) × (List (List AV)) × Int × Int × Nat × Int × Int × Bool × (List (List AV)) × Int × Int × RT3 × (List AV)
  Y := ((List (List AV)) × (List (List AV)) × (List (List AV)) × (List (List AV)) × Int × Int × Nat × Int × Int × (List (List AV)) × Int × Int × RT3 × (List AV))
  p := fun s => rdS 207 0 [(15, .tok 38 1280000960), (16, .tok 30 1280001024), (1, .lst 38), (3, .lst 25), (2, .int .i64), (4, .int .i64), (5, .ptr 5 0), (14, .vs0 34 1), (17, .int .i64), (18, .ptr 18 0), (19, .int .i64), (49, .bool)] [(5, .cells [.lst 4, .int .i64, .int .i64]), (18, .row RK3), (34, .tt)] s fun ⟨a0, a1, a2, a3, a4, a5, _, a6, a7, _, a8, a9, _⟩ ⟨⟨a10, a11, a12, _⟩, a13, a14, _⟩ => (a0, a1, a2, a3, a4, a5, a6, a7, a8, a9, a10, a11, a12, a13, a14)
  st := fun u22 => mkS 207 [(15, (AV.list 38 u22.1 (some 1280000960))), (16, (AV.list 30 u22.2.1 (some 1280001024))), (1, (AV.list 38 u22.2.2.1 none)), (3, (AV.list 25 u22.2.2.2.1 none)), (2, (AV.v (.int .i64 u22.2.2.2.2.1))), (4, (AV.v (.int .i64 u22.2.2.2.2.2.1))), (5, (AV.ptr 5 0)), (14, (AV.vs 34 0 u22.2.2.2.2.2.2.1 1)), (17, (AV.v (.int .i64 u22.2.2.2.2.2.2.2.1))), (18, (AV.ptr 18 0)), (19, (AV.v (.int .i64 u22.2.2.2.2.2.2.2.2.1))), (49, (AV.v (.bool u22.2.2.2.2.2.2.2.2.2.1)))] [(5, [(AV.list 4 u22.2.2.2.2.2.2.2.2.2.2.1 none), (AV.v (.int .i64 u22.2.2.2.2.2.2.2.2.2.2.2.1)), (AV.v (.int .i64 u22.2.2.2.2.2.2.2.2.2.2.2.2.1))]), (18, (Ren3 u22.2.2.2.2.2.2.2.2.2.2.2.2.2.1)), (34, u22.2.2.2.2.2.2.2.2.2.2.2.2.2.2)] (zP 22).1.toks 0
  out := fun y => (.normal, mkS 207 [(15, (AV.list 38 y.1 (some 1280000960))), (16, (AV.list 30 y.2.1 (some 1280001024))), (1, (AV.list 38 y.2.2.1 none)), (3, (AV.list 25 y.2.2.2.1 none)), (2, (AV.v (.int .i64 y.2.2.2.2.1))), (4, (AV.v (.int .i64 y.2.2.2.2.2.1))), (5, (AV.ptr 5 0)), (14, (AV.vs 34 0 y.2.2.2.2.2.2.1 1)), (17, (AV.v (.int .i64 y.2.2.2.2.2.2.2.1))), (18, (AV.ptr 18 0)), (19, (AV.v (.int .i64 y.2.2.2.2.2.2.2.2.1)))] [(5, [(AV.list 4 y.2.2.2.2.2.2.2.2.2.1 none), (AV.v (.int .i64 y.2.2.2.2.2.2.2.2.2.2.1)), (AV.v (.int .i64 y.2.2.2.2.2.2.2.2.2.2.2.1))]), (18, (Ren3 y.2.2.2.2.2.2.2.2.2.2.2.2.1)), (34, y.2.2.2.2.2.2.2.2.2.2.2.2.2)] (zP 22).2.toks 0)
  sp := fun y α k => k (.normal, mkS 207 [(15, (AV.list 38 y.1 (some 1280000960))), (16, (AV.list 30 y.2.1 (some 1280001024))), (1, (AV.list 38 y.2.2.1 none)), (3, (AV.list 25 y.2.2.2.1 none)), (2, (AV.v (.int .i64 y.2.2.2.2.1))), (4, (AV.v (.int .i64 y.2.2.2.2.2.1))), (5, (AV.ptr 5 0)), (14, (AV.vs 34 0 y.2.2.2.2.2.2.1 1)), (17, (AV.v (.int .i64 y.2.2.2.2.2.2.2.1))), (18, (AV.ptr 18 0)), (19, (AV.v (.int .i64 y.2.2.2.2.2.2.2.2.1)))] [(5, [(AV.list 4 y.2.2.2.2.2.2.2.2.2.1 none), (AV.v (.int .i64 y.2.2.2.2.2.2.2.2.2.2.1)), (AV.v (.int .i64 y.2.2.2.2.2.2.2.2.2.2.2.1))]), (18, (Ren3 y.2.2.2.2.2.2.2.2.2.2.2.2.1)), (34, y.2.2.2.2.2.2.2.2.2.2.2.2.2)] (zP 22).2.toks 0)
  spe := fun y α k => rfl
  b := fun u22 α kn ke => (match u22.2.2.2.2.2.2.2.2.2.1 with | true => (if 0 ≤ u22.2.2.2.2.2.2.2.1 ∧ u22.2.2.2.2.2.2.2.1 < (u22.2.2.2.2.2.2.1 : Int) then (match u22.2.2.2.2.2.2.2.2.2.2.2.2.2.2[((0 + u22.2.2.2.2.2.2.2.1.toNat) * 1)]? with | some x18 => (match x18 with | .v (.int q20 n19) => (if q20 = .i64 then (if 0 ≤ n19 then (match u22.2.2.2.1[n19.toNat]? with | some c21 => (match Rrd1 (c21.drop 0) with | some e22 => (ke (u22.1, u22.2.1, u22.2.2.1, u22.2.2.2.1, u22.2.2.2.2.1, u22.2.2.2.2.2.1, u22.2.2.2.2.2.2.1, u22.2.2.2.2.2.2.2.1, u22.2.2.2.2.2.2.2.2.1, u22.2.2.2.2.2.2.2.2.2.2.1, u22.2.2.2.2.2.2.2.2.2.2.2.1, u22.2.2.2.2.2.2.2.2.2.2.2.2.1, (u22.2.2.2.2.2.2.2.2.2.2.2.2.2.1.1, u22.2.2.2.2.2.2.2.2.2.2.2.2.2.1.2.1, e22.1, e22.2.1, e22.2.2.1, e22.2.2.2.1, e22.2.2.2.2.1, e22.2.2.2.2.2.1, e22.2.2.2.2.2.2.1, e22.2.2.2.2.2.2.2.1, e22.2.2.2.2.2.2.2.2.1, u22.2.2.2.2.2.2.2.2.2.2.2.2.2.1.2.2.2.2.2.2.2.2.2.2.2), (u22.2.2.2.2.2.2.2.2.2.2.2.2.2.2.map dat0))) | none => none) | none => none) else none) else none) | _ => none) | none => none) else none) | false => (ke (u22.1, u22.2.1, u22.2.2.1, u22.2.2.2.1, u22.2.2.2.2.1, u22.2.2.2.2.2.1, u22.2.2.2.2.2.2.1, u22.2.2.2.2.2.2.2.1, u22.2.2.2.2.2.2.2.2.1, u22.2.2.2.2.2.2.2.2.2.2.1, u22.2.2.2.2.2.2.2.2.2.2.2.1, u22.2.2.2.2.2.2.2.2.2.2.2.2.1, u22.2.2.2.2.2.2.2.2.2.2.2.2.2.1, (u22.2.2.2.2.2.2.2.2.2.2.2.2.2.2.map dat0))))
noncomputable abbrev zel (N : Nat) (x : (List (List AV)) × (List (List AV)) × (List (List AV)) × (List (List AV)) × Int × Int × Nat × Int × Int × Bool × (List (List AV)) × Int × Int × RT3 × (List AV)) : Option (((List (List AV)) × (List (List AV)) × (List (List AV)) × (List (List AV)) × Int × Int × Nat × Int × Int × (List (List AV)) × Int × Int × RT3 × (List AV))) := (je N).L N x
noncomputable def Zf (N : Nat) : LSpec where
  X := (List (List AV)) × (List (List AV)) × (List (List AV)) × (List (List AV)) × Int × Int × Nat × Int × (List (List AV)) × Int × Int × (List AV)
  Y := ((List (List AV)) × (List (List AV)) × (List (List AV)) × Int × Int × Nat × (List (List AV)) × Int × Int × (List AV))
  p := fun s => rdS 207 0 [(15, .tok 38 1280000960), (16, .tok 30 1280001024), (1, .lst 38), (3, .lst 25), (2, .int .i64), (4, .int .i64), (5, .ptr 5 0), (14, .vs0 34 1), (17, .int .i64)] [(5, .cells [.lst 4, .int .i64, .int .i64]), (34, .tt)] s fun ⟨a0, a1, a2, a3, a4, a5, _, a6, a7, _⟩ ⟨⟨a8, a9, a10, _⟩, a11, _⟩ => (a0, a1, a2, a3, a4, a5, a6, a7, a8, a9, a10, a11)
  st := fun u12 => mkS 207 [(15, (AV.list 38 u12.1 (some 1280000960))), (16, (AV.list 30 u12.2.1 (some 1280001024))), (1, (AV.list 38 u12.2.2.1 none)), (3, (AV.list 25 u12.2.2.2.1 none)), (2, (AV.v (.int .i64 u12.2.2.2.2.1))), (4, (AV.v (.int .i64 u12.2.2.2.2.2.1))), (5, (AV.ptr 5 0)), (14, (AV.vs 34 0 u12.2.2.2.2.2.2.1 1)), (17, (AV.v (.int .i64 u12.2.2.2.2.2.2.2.1)))] [(5, [(AV.list 4 u12.2.2.2.2.2.2.2.2.1 none), (AV.v (.int .i64 u12.2.2.2.2.2.2.2.2.2.1)), (AV.v (.int .i64 u12.2.2.2.2.2.2.2.2.2.2.1))]), (34, u12.2.2.2.2.2.2.2.2.2.2.2)] (zP 12).1.toks 0
  out := fun y => (.exit 0, mkS 207 [(15, (AV.list 38 y.1 (some 1280000960))), (16, (AV.list 30 y.2.1 (some 1280001024))), (3, (AV.list 25 y.2.2.1 none)), (2, (AV.v (.int .i64 y.2.2.2.1))), (4, (AV.v (.int .i64 y.2.2.2.2.1))), (5, (AV.ptr 5 0)), (14, (AV.vs 34 0 y.2.2.2.2.2.1 1))] [(5, [(AV.list 4 y.2.2.2.2.2.2.1 none), (AV.v (.int .i64 y.2.2.2.2.2.2.2.1)), (AV.v (.int .i64 y.2.2.2.2.2.2.2.2.1))]), (34, y.2.2.2.2.2.2.2.2.2)] (zP 12).2.toks 0)
  sp := fun y α k => k (.exit 0, mkS 207 [(15, (AV.list 38 y.1 (some 1280000960))), (16, (AV.list 30 y.2.1 (some 1280001024))), (3, (AV.list 25 y.2.2.1 none)), (2, (AV.v (.int .i64 y.2.2.2.1))), (4, (AV.v (.int .i64 y.2.2.2.2.1))), (5, (AV.ptr 5 0)), (14, (AV.vs 34 0 y.2.2.2.2.2.1 1))] [(5, [(AV.list 4 y.2.2.2.2.2.2.1 none), (AV.v (.int .i64 y.2.2.2.2.2.2.2.1)), (AV.v (.int .i64 y.2.2.2.2.2.2.2.2.1))]), (34, y.2.2.2.2.2.2.2.2.2)] (zP 12).2.toks 0)
  spe := fun y α k => rfl
  b := fun u12 α kn ke => (match (decide (u12.2.2.2.2.2.2.2.1 < (u12.2.2.1.length : Int))) with | true => (if 0 ≤ u12.2.2.2.2.2.2.2.1 then (match u12.2.2.1[u12.2.2.2.2.2.2.2.1.toNat]? with | some c70 => (match Rrd3 c70 with | some e71 => (if 0 ≤ u12.2.2.2.2.2.2.2.1 ∧ u12.2.2.2.2.2.2.2.1 < (u12.2.2.2.2.2.2.1 : Int) then (match u12.2.2.2.2.2.2.2.2.2.2.2[((0 + u12.2.2.2.2.2.2.2.1.toNat) * 1)]? with | some x72 => (match x72 with | .v (.int q74 n73) => (if q74 = .i64 then (match zel N (u12.1, u12.2.1, u12.2.2.1, u12.2.2.2.1, u12.2.2.2.2.1, u12.2.2.2.2.2.1, u12.2.2.2.2.2.2.1, u12.2.2.2.2.2.2.2.1, 0, (decide (n73 ≥ 0)), u12.2.2.2.2.2.2.2.2.1, u12.2.2.2.2.2.2.2.2.2.1, u12.2.2.2.2.2.2.2.2.2.2.1, e71, (u12.2.2.2.2.2.2.2.2.2.2.2.map dat0)) with | some y75 => (if 0 ≤ y75.2.2.2.2.2.2.2.1 ∧ y75.2.2.2.2.2.2.2.1 < (y75.2.2.2.2.2.2.1 : Int) then (match y75.2.2.2.2.2.2.2.2.2.2.2.2.2[((0 + y75.2.2.2.2.2.2.2.1.toNat) * 1)]? with | some x76 => (match x76 with | .v (.int q78 n77) => (if q78 = .i64 then (match zdF N (y75.1, y75.2.1, y75.2.2.1, y75.2.2.2.1, y75.2.2.2.2.1, y75.2.2.2.2.2.1, y75.2.2.2.2.2.2.1, y75.2.2.2.2.2.2.2.1, y75.2.2.2.2.2.2.2.2.1, n77, y75.2.2.2.2.2.2.2.2.2.2.2.2.1.2.1, y75.2.2.2.2.2.2.2.2.2.1, y75.2.2.2.2.2.2.2.2.2.2.1, y75.2.2.2.2.2.2.2.2.2.2.2.1, y75.2.2.2.2.2.2.2.2.2.2.2.2.1, (y75.2.2.2.2.2.2.2.2.2.2.2.2.2.map dat0)) with | some y79 => (match (decide (y79.2.2.2.2.2.2.2.2.1 > 0)) with | true => (if (y79.2.1.length + [(Ren6 ((i64 (y79.2.2.2.2.1 + (y79.2.1.length : Int))), y79.2.2.2.2.2.2.2.2.1, y79.2.2.2.2.2.2.2.2.2.2.2.2.1.1, y79.2.2.2.2.2.1, y79.2.2.2.2.2.2.2.2.2.2.2.2.1.2.2.2.2.2.2.2.2.2.2.2.1, y79.2.2.2.2.2.2.2.2.2.2.2.2.1.2.2.2.2.2.2.2.2.2.2.2.2.1, y79.2.2.2.2.2.2.2.2.2.2.2.2.1.2.2.2.2.2.2.2.2.2.2.2.2.2.1, y79.2.2.2.2.2.2.2.2.2.2.2.2.1.2.2.2.2.2.2.2.2.2.2.2.2.2.2.1, y79.2.2.2.2.2.2.2.2.2.2.2.2.1.2.2.2.2.2.2.2.2.2.2.2.2.2.2.2.1, y79.2.2.2.2.2.2.2.2.2.2.2.2.1.2.2.2.2.2.2.2.2.2.2.2.2.2.2.2.2.1, y79.2.2.2.2.2.2.2.2.2.2.2.2.1.2.2.2.2.2.2.2.2.2.2.2.2.2.2.2.2.2.1, y79.2.2.2.2.2.2.2.2.2.2.2.2.1.2.2.2.2.2.2.2.2.2.2.2.2.2.2.2.2.2.2.1, y79.2.2.2.2.2.2.2.2.2.2.2.2.1.2.2.2.2.2.2.2.2.2.2.2.2.2.2.2.2.2.2.2.1, y79.2.2.2.2.2.2.2.2.2.2.2.2.1.2.2.2.2.2.2.2.2.2.2.2.2.2.2.2.2.2.2.2.2.1, y79.2.2.2.2.2.2.2.2.2.2.2.2.1.2.2.2.2.2.2.2.2.2.2.2.2.2.2.2.2.2.2.2.2.2.1, y79.2.2.2.2.2.2.2.2.2.2.2.2.1.2.2.2.2.2.2.2.2.2.2.2.2.2.2.2.2.2.2.2.2.2.2.1, y79.2.2.2.2.2.2.2.2.2.2.2.2.1.2.2.2.2.2.2.2.2.2.2.2.2.2.2.2.2.2.2.2.2.2.2.2.1, y79.2.2.2.2.2.2.2.2.2.2.2.2.1.2.2.2.2.2.2.2.2.2.2.2.2.2.2.2.2.2.2.2.2.2.2.2.2.1, y79.2.2.2.2.2.2.2.2.2.2.2.2.1.2.2.2.2.2.2.2.2.2.2.2.2.2.2.2.2.2.2.2.2.2.2.2.2.2.1, y79.2.2.2.2.2.2.2.2.2.2.2.2.1.2.2.2.2.2.2.2.2.2.2.2.2.2.2.2.2.2.2.2.2.2.2.2.2.2.2.1, y79.2.2.2.2.2.2.2.2.2.2.2.2.1.2.2.2.2.2.2.2.2.2.2.2.2.2.2.2.2.2.2.2.2.2.2.2.2.2.2.2.1, y79.2.2.2.2.2.2.2.2.2.2.2.2.1.2.2.2.2.2.2.2.2.2.2.2.2.2.2.2.2.2.2.2.2.2.2.2.2.2.2.2.2.1, y79.2.2.2.2.2.2.2.2.2.2.2.2.1.2.2.2.2.2.2.2.2.2.2.2.2.2.2.2.2.2.2.2.2.2.2.2.2.2.2.2.2.2.1, y79.2.2.2.2.2.2.2.2.2.2.2.2.1.2.2.2.2.2.2.2.2.2.2.2.2.2.2.2.2.2.2.2.2.2.2.2.2.2.2.2.2.2.2.1, y79.2.2.2.2.2.2.2.2.2.2.2.2.1.2.2.2.2.2.2.2.2.2.2.2.2.2.2.2.2.2.2.2.2.2.2.2.2.2.2.2.2.2.2.2.1, y79.2.2.2.2.2.2.2.2.2.2.2.2.1.2.2.2.2.2.2.2.2.2.2.2.2.2.2.2.2.2.2.2.2.2.2.2.2.2.2.2.2.2.2.2.2.1, y79.2.2.2.2.2.2.2.2.2.2.2.2.1.2.2.2.2.2.2.2.2.2.2.2.2.2.2.2.2.2.2.2.2.2.2.2.2.2.2.2.2.2.2.2.2.2.1, y79.2.2.2.2.2.2.2.2.2.2.2.2.1.2.2.2.2.2.2.2.2.2.2.2.2.2.2.2.2.2.2.2.2.2.2.2.2.2.2.2.2.2.2.2.2.2.2.1, y79.2.2.2.2.2.2.2.2.2.2.2.2.1.2.2.2.2.2.2.2.2.2.2.2.2.2.2.2.2.2.2.2.2.2.2.2.2.2.2.2.2.2.2.2.2.2.2.2.1, y79.2.2.2.2.2.2.2.2.2.2.2.2.1.2.2.2.2.2.2.2.2.2.2.2.2.2.2.2.2.2.2.2.2.2.2.2.2.2.2.2.2.2.2.2.2.2.2.2.2.1, ()))].length) * 288 ≤ zl then (if (y79.1.length + [(Ren3 (y79.2.2.2.2.2.2.2.2.2.2.2.2.1.1, y79.2.2.2.2.2.2.2.2.2.2.2.2.1.2.1, y79.2.2.2.2.2.2.2.2.2.2.2.2.1.2.2.1, y79.2.2.2.2.2.2.2.2.2.2.2.2.1.2.2.2.1, y79.2.2.2.2.2.2.2.2.2.2.2.2.1.2.2.2.2.1, y79.2.2.2.2.2.2.2.2.2.2.2.2.1.2.2.2.2.2.1, y79.2.2.2.2.2.2.2.2.2.2.2.2.1.2.2.2.2.2.2.1, y79.2.2.2.2.2.2.2.2.2.2.2.2.1.2.2.2.2.2.2.2.1, y79.2.2.2.2.2.2.2.2.2.2.2.2.1.2.2.2.2.2.2.2.2.1, y79.2.2.2.2.2.2.2.2.2.2.2.2.1.2.2.2.2.2.2.2.2.2.1, y79.2.2.2.2.2.2.2.2.2.2.2.2.1.2.2.2.2.2.2.2.2.2.2.1, y79.2.2.2.2.2.2.2.2.2.2.2.2.1.2.2.2.2.2.2.2.2.2.2.2.1, y79.2.2.2.2.2.2.2.2.2.2.2.2.1.2.2.2.2.2.2.2.2.2.2.2.2.1, y79.2.2.2.2.2.2.2.2.2.2.2.2.1.2.2.2.2.2.2.2.2.2.2.2.2.2.1, y79.2.2.2.2.2.2.2.2.2.2.2.2.1.2.2.2.2.2.2.2.2.2.2.2.2.2.2.1, y79.2.2.2.2.2.2.2.2.2.2.2.2.1.2.2.2.2.2.2.2.2.2.2.2.2.2.2.2.1, y79.2.2.2.2.2.2.2.2.2.2.2.2.1.2.2.2.2.2.2.2.2.2.2.2.2.2.2.2.2.1, y79.2.2.2.2.2.2.2.2.2.2.2.2.1.2.2.2.2.2.2.2.2.2.2.2.2.2.2.2.2.2.1, y79.2.2.2.2.2.2.2.2.2.2.2.2.1.2.2.2.2.2.2.2.2.2.2.2.2.2.2.2.2.2.2.1, y79.2.2.2.2.2.2.2.2.2.2.2.2.1.2.2.2.2.2.2.2.2.2.2.2.2.2.2.2.2.2.2.2.1, y79.2.2.2.2.2.2.2.2.2.2.2.2.1.2.2.2.2.2.2.2.2.2.2.2.2.2.2.2.2.2.2.2.2.1, y79.2.2.2.2.2.2.2.2.2.2.2.2.1.2.2.2.2.2.2.2.2.2.2.2.2.2.2.2.2.2.2.2.2.2.1, y79.2.2.2.2.2.2.2.2.2.2.2.2.1.2.2.2.2.2.2.2.2.2.2.2.2.2.2.2.2.2.2.2.2.2.2.1, y79.2.2.2.2.2.2.2.2.2.2.2.2.1.2.2.2.2.2.2.2.2.2.2.2.2.2.2.2.2.2.2.2.2.2.2.2.1, y79.2.2.2.2.2.2.2.2.2.2.2.2.1.2.2.2.2.2.2.2.2.2.2.2.2.2.2.2.2.2.2.2.2.2.2.2.2.1, y79.2.2.2.2.2.2.2.2.2.2.2.2.1.2.2.2.2.2.2.2.2.2.2.2.2.2.2.2.2.2.2.2.2.2.2.2.2.2.1, y79.2.2.2.2.2.2.2.2.2.2.2.2.1.2.2.2.2.2.2.2.2.2.2.2.2.2.2.2.2.2.2.2.2.2.2.2.2.2.2.1, y79.2.2.2.2.2.2.2.2.2.2.2.2.1.2.2.2.2.2.2.2.2.2.2.2.2.2.2.2.2.2.2.2.2.2.2.2.2.2.2.2.1, y79.2.2.2.2.2.2.2.2.2.2.2.2.1.2.2.2.2.2.2.2.2.2.2.2.2.2.2.2.2.2.2.2.2.2.2.2.2.2.2.2.2.1, y79.2.2.2.2.2.2.2.2.2.2.2.2.1.2.2.2.2.2.2.2.2.2.2.2.2.2.2.2.2.2.2.2.2.2.2.2.2.2.2.2.2.2.1, y79.2.2.2.2.2.2.2.2.2.2.2.2.1.2.2.2.2.2.2.2.2.2.2.2.2.2.2.2.2.2.2.2.2.2.2.2.2.2.2.2.2.2.2.1, y79.2.2.2.2.2.2.2.2.2.2.2.2.1.2.2.2.2.2.2.2.2.2.2.2.2.2.2.2.2.2.2.2.2.2.2.2.2.2.2.2.2.2.2.2.1, y79.2.2.2.2.2.2.2.2.2.2.2.2.1.2.2.2.2.2.2.2.2.2.2.2.2.2.2.2.2.2.2.2.2.2.2.2.2.2.2.2.2.2.2.2.2.1, y79.2.2.2.2.2.2.2.2.2.2.2.2.1.2.2.2.2.2.2.2.2.2.2.2.2.2.2.2.2.2.2.2.2.2.2.2.2.2.2.2.2.2.2.2.2.2.1, y79.2.2.2.2.2.2.2.2.2.2.2.2.1.2.2.2.2.2.2.2.2.2.2.2.2.2.2.2.2.2.2.2.2.2.2.2.2.2.2.2.2.2.2.2.2.2.2.1, y79.2.2.2.2.2.2.2.2.2.2.2.2.1.2.2.2.2.2.2.2.2.2.2.2.2.2.2.2.2.2.2.2.2.2.2.2.2.2.2.2.2.2.2.2.2.2.2.2.1, y79.2.2.2.2.2.2.2.2.2.2.2.2.1.2.2.2.2.2.2.2.2.2.2.2.2.2.2.2.2.2.2.2.2.2.2.2.2.2.2.2.2.2.2.2.2.2.2.2.2.1, y79.2.2.2.2.2.1, ()))].length) * 384 ≤ zl then (kn ((y79.1 ++ [(Ren3 (y79.2.2.2.2.2.2.2.2.2.2.2.2.1.1, y79.2.2.2.2.2.2.2.2.2.2.2.2.1.2.1, y79.2.2.2.2.2.2.2.2.2.2.2.2.1.2.2.1, y79.2.2.2.2.2.2.2.2.2.2.2.2.1.2.2.2.1, y79.2.2.2.2.2.2.2.2.2.2.2.2.1.2.2.2.2.1, y79.2.2.2.2.2.2.2.2.2.2.2.2.1.2.2.2.2.2.1, y79.2.2.2.2.2.2.2.2.2.2.2.2.1.2.2.2.2.2.2.1, y79.2.2.2.2.2.2.2.2.2.2.2.2.1.2.2.2.2.2.2.2.1, y79.2.2.2.2.2.2.2.2.2.2.2.2.1.2.2.2.2.2.2.2.2.1, y79.2.2.2.2.2.2.2.2.2.2.2.2.1.2.2.2.2.2.2.2.2.2.1, y79.2.2.2.2.2.2.2.2.2.2.2.2.1.2.2.2.2.2.2.2.2.2.2.1, y79.2.2.2.2.2.2.2.2.2.2.2.2.1.2.2.2.2.2.2.2.2.2.2.2.1, y79.2.2.2.2.2.2.2.2.2.2.2.2.1.2.2.2.2.2.2.2.2.2.2.2.2.1, y79.2.2.2.2.2.2.2.2.2.2.2.2.1.2.2.2.2.2.2.2.2.2.2.2.2.2.1, y79.2.2.2.2.2.2.2.2.2.2.2.2.1.2.2.2.2.2.2.2.2.2.2.2.2.2.2.1, y79.2.2.2.2.2.2.2.2.2.2.2.2.1.2.2.2.2.2.2.2.2.2.2.2.2.2.2.2.1, y79.2.2.2.2.2.2.2.2.2.2.2.2.1.2.2.2.2.2.2.2.2.2.2.2.2.2.2.2.2.1, y79.2.2.2.2.2.2.2.2.2.2.2.2.1.2.2.2.2.2.2.2.2.2.2.2.2.2.2.2.2.2.1, y79.2.2.2.2.2.2.2.2.2.2.2.2.1.2.2.2.2.2.2.2.2.2.2.2.2.2.2.2.2.2.2.1, y79.2.2.2.2.2.2.2.2.2.2.2.2.1.2.2.2.2.2.2.2.2.2.2.2.2.2.2.2.2.2.2.2.1, y79.2.2.2.2.2.2.2.2.2.2.2.2.1.2.2.2.2.2.2.2.2.2.2.2.2.2.2.2.2.2.2.2.2.1, y79.2.2.2.2.2.2.2.2.2.2.2.2.1.2.2.2.2.2.2.2.2.2.2.2.2.2.2.2.2.2.2.2.2.2.1, y79.2.2.2.2.2.2.2.2.2.2.2.2.1.2.2.2.2.2.2.2.2.2.2.2.2.2.2.2.2.2.2.2.2.2.2.1, y79.2.2.2.2.2.2.2.2.2.2.2.2.1.2.2.2.2.2.2.2.2.2.2.2.2.2.2.2.2.2.2.2.2.2.2.2.1, y79.2.2.2.2.2.2.2.2.2.2.2.2.1.2.2.2.2.2.2.2.2.2.2.2.2.2.2.2.2.2.2.2.2.2.2.2.2.1, y79.2.2.2.2.2.2.2.2.2.2.2.2.1.2.2.2.2.2.2.2.2.2.2.2.2.2.2.2.2.2.2.2.2.2.2.2.2.2.1, y79.2.2.2.2.2.2.2.2.2.2.2.2.1.2.2.2.2.2.2.2.2.2.2.2.2.2.2.2.2.2.2.2.2.2.2.2.2.2.2.1, y79.2.2.2.2.2.2.2.2.2.2.2.2.1.2.2.2.2.2.2.2.2.2.2.2.2.2.2.2.2.2.2.2.2.2.2.2.2.2.2.2.1, y79.2.2.2.2.2.2.2.2.2.2.2.2.1.2.2.2.2.2.2.2.2.2.2.2.2.2.2.2.2.2.2.2.2.2.2.2.2.2.2.2.2.1, y79.2.2.2.2.2.2.2.2.2.2.2.2.1.2.2.2.2.2.2.2.2.2.2.2.2.2.2.2.2.2.2.2.2.2.2.2.2.2.2.2.2.2.1, y79.2.2.2.2.2.2.2.2.2.2.2.2.1.2.2.2.2.2.2.2.2.2.2.2.2.2.2.2.2.2.2.2.2.2.2.2.2.2.2.2.2.2.2.1, y79.2.2.2.2.2.2.2.2.2.2.2.2.1.2.2.2.2.2.2.2.2.2.2.2.2.2.2.2.2.2.2.2.2.2.2.2.2.2.2.2.2.2.2.2.1, y79.2.2.2.2.2.2.2.2.2.2.2.2.1.2.2.2.2.2.2.2.2.2.2.2.2.2.2.2.2.2.2.2.2.2.2.2.2.2.2.2.2.2.2.2.2.1, y79.2.2.2.2.2.2.2.2.2.2.2.2.1.2.2.2.2.2.2.2.2.2.2.2.2.2.2.2.2.2.2.2.2.2.2.2.2.2.2.2.2.2.2.2.2.2.1, y79.2.2.2.2.2.2.2.2.2.2.2.2.1.2.2.2.2.2.2.2.2.2.2.2.2.2.2.2.2.2.2.2.2.2.2.2.2.2.2.2.2.2.2.2.2.2.2.1, y79.2.2.2.2.2.2.2.2.2.2.2.2.1.2.2.2.2.2.2.2.2.2.2.2.2.2.2.2.2.2.2.2.2.2.2.2.2.2.2.2.2.2.2.2.2.2.2.2.1, y79.2.2.2.2.2.2.2.2.2.2.2.2.1.2.2.2.2.2.2.2.2.2.2.2.2.2.2.2.2.2.2.2.2.2.2.2.2.2.2.2.2.2.2.2.2.2.2.2.2.1, y79.2.2.2.2.2.1, ()))]), (y79.2.1 ++ [(Ren6 ((i64 (y79.2.2.2.2.1 + (y79.2.1.length : Int))), y79.2.2.2.2.2.2.2.2.1, y79.2.2.2.2.2.2.2.2.2.2.2.2.1.1, y79.2.2.2.2.2.1, y79.2.2.2.2.2.2.2.2.2.2.2.2.1.2.2.2.2.2.2.2.2.2.2.2.1, y79.2.2.2.2.2.2.2.2.2.2.2.2.1.2.2.2.2.2.2.2.2.2.2.2.2.1, y79.2.2.2.2.2.2.2.2.2.2.2.2.1.2.2.2.2.2.2.2.2.2.2.2.2.2.1, y79.2.2.2.2.2.2.2.2.2.2.2.2.1.2.2.2.2.2.2.2.2.2.2.2.2.2.2.1, y79.2.2.2.2.2.2.2.2.2.2.2.2.1.2.2.2.2.2.2.2.2.2.2.2.2.2.2.2.1, y79.2.2.2.2.2.2.2.2.2.2.2.2.1.2.2.2.2.2.2.2.2.2.2.2.2.2.2.2.2.1, y79.2.2.2.2.2.2.2.2.2.2.2.2.1.2.2.2.2.2.2.2.2.2.2.2.2.2.2.2.2.2.1, y79.2.2.2.2.2.2.2.2.2.2.2.2.1.2.2.2.2.2.2.2.2.2.2.2.2.2.2.2.2.2.2.1, y79.2.2.2.2.2.2.2.2.2.2.2.2.1.2.2.2.2.2.2.2.2.2.2.2.2.2.2.2.2.2.2.2.1, y79.2.2.2.2.2.2.2.2.2.2.2.2.1.2.2.2.2.2.2.2.2.2.2.2.2.2.2.2.2.2.2.2.2.1, y79.2.2.2.2.2.2.2.2.2.2.2.2.1.2.2.2.2.2.2.2.2.2.2.2.2.2.2.2.2.2.2.2.2.2.1, y79.2.2.2.2.2.2.2.2.2.2.2.2.1.2.2.2.2.2.2.2.2.2.2.2.2.2.2.2.2.2.2.2.2.2.2.1, y79.2.2.2.2.2.2.2.2.2.2.2.2.1.2.2.2.2.2.2.2.2.2.2.2.2.2.2.2.2.2.2.2.2.2.2.2.1, y79.2.2.2.2.2.2.2.2.2.2.2.2.1.2.2.2.2.2.2.2.2.2.2.2.2.2.2.2.2.2.2.2.2.2.2.2.2.1, y79.2.2.2.2.2.2.2.2.2.2.2.2.1.2.2.2.2.2.2.2.2.2.2.2.2.2.2.2.2.2.2.2.2.2.2.2.2.2.1, y79.2.2.2.2.2.2.2.2.2.2.2.2.1.2.2.2.2.2.2.2.2.2.2.2.2.2.2.2.2.2.2.2.2.2.2.2.2.2.2.1, y79.2.2.2.2.2.2.2.2.2.2.2.2.1.2.2.2.2.2.2.2.2.2.2.2.2.2.2.2.2.2.2.2.2.2.2.2.2.2.2.2.1, y79.2.2.2.2.2.2.2.2.2.2.2.2.1.2.2.2.2.2.2.2.2.2.2.2.2.2.2.2.2.2.2.2.2.2.2.2.2.2.2.2.2.1, y79.2.2.2.2.2.2.2.2.2.2.2.2.1.2.2.2.2.2.2.2.2.2.2.2.2.2.2.2.2.2.2.2.2.2.2.2.2.2.2.2.2.2.1, y79.2.2.2.2.2.2.2.2.2.2.2.2.1.2.2.2.2.2.2.2.2.2.2.2.2.2.2.2.2.2.2.2.2.2.2.2.2.2.2.2.2.2.2.1, y79.2.2.2.2.2.2.2.2.2.2.2.2.1.2.2.2.2.2.2.2.2.2.2.2.2.2.2.2.2.2.2.2.2.2.2.2.2.2.2.2.2.2.2.2.1, y79.2.2.2.2.2.2.2.2.2.2.2.2.1.2.2.2.2.2.2.2.2.2.2.2.2.2.2.2.2.2.2.2.2.2.2.2.2.2.2.2.2.2.2.2.2.1, y79.2.2.2.2.2.2.2.2.2.2.2.2.1.2.2.2.2.2.2.2.2.2.2.2.2.2.2.2.2.2.2.2.2.2.2.2.2.2.2.2.2.2.2.2.2.2.1, y79.2.2.2.2.2.2.2.2.2.2.2.2.1.2.2.2.2.2.2.2.2.2.2.2.2.2.2.2.2.2.2.2.2.2.2.2.2.2.2.2.2.2.2.2.2.2.2.1, y79.2.2.2.2.2.2.2.2.2.2.2.2.1.2.2.2.2.2.2.2.2.2.2.2.2.2.2.2.2.2.2.2.2.2.2.2.2.2.2.2.2.2.2.2.2.2.2.2.1, y79.2.2.2.2.2.2.2.2.2.2.2.2.1.2.2.2.2.2.2.2.2.2.2.2.2.2.2.2.2.2.2.2.2.2.2.2.2.2.2.2.2.2.2.2.2.2.2.2.2.1, ()))]), y79.2.2.1, y79.2.2.2.1, y79.2.2.2.2.1, y79.2.2.2.2.2.1, y79.2.2.2.2.2.2.1, (i64 (y79.2.2.2.2.2.2.2.1 + 1)), y79.2.2.2.2.2.2.2.2.2.1, y79.2.2.2.2.2.2.2.2.2.2.1, y79.2.2.2.2.2.2.2.2.2.2.2.1, (y79.2.2.2.2.2.2.2.2.2.2.2.2.2.map dat0))) else none) else none) | false => (if (y79.1.length + [(Ren3 y79.2.2.2.2.2.2.2.2.2.2.2.2.1)].length) * 384 ≤ zl then (kn ((y79.1 ++ [(Ren3 y79.2.2.2.2.2.2.2.2.2.2.2.2.1)]), y79.2.1, y79.2.2.1, y79.2.2.2.1, y79.2.2.2.2.1, y79.2.2.2.2.2.1, y79.2.2.2.2.2.2.1, (i64 (y79.2.2.2.2.2.2.2.1 + 1)), y79.2.2.2.2.2.2.2.2.2.1, y79.2.2.2.2.2.2.2.2.2.2.1, y79.2.2.2.2.2.2.2.2.2.2.2.1, (y79.2.2.2.2.2.2.2.2.2.2.2.2.2.map dat0))) else none)) | none => none) else none) | _ => none) | none => none) else none) | none => none) else none) | _ => none) | none => none) else none) | none => none) | none => none) else none) | false => (ke (u12.1, u12.2.1, u12.2.2.2.1, u12.2.2.2.2.1, u12.2.2.2.2.2.1, u12.2.2.2.2.2.2.1, u12.2.2.2.2.2.2.2.2.1, u12.2.2.2.2.2.2.2.2.2.1, u12.2.2.2.2.2.2.2.2.2.2.1, (u12.2.2.2.2.2.2.2.2.2.2.2.map dat0))))
noncomputable abbrev zkE (N : Nat) (x : (List (List AV)) × (List (List AV)) × (List (List AV)) × (List (List AV)) × Int × Int × Nat × Int × (List (List AV)) × Int × Int × (List AV)) : Option (((List (List AV)) × (List (List AV)) × (List (List AV)) × Int × Int × Nat × (List (List AV)) × Int × Int × (List AV))) := (Zf N).L N x
noncomputable def zcE (N : Nat) : FSpec where
  X := (List (List AV)) × Int × Int × (List (List AV)) × Int × (List (List AV)) × Int
  Y := (List (List AV)) × (List (List AV)) × Int
  ash := [[some 4, none, none], [some 38], [none], [some 25], [none]]
  bsh := []
  S := ⟨[[some 2000038], [some 2000030], [none]], [], [], [], []⟩
  bm := false
  pat := fun a b => zj a fun v1 c2 => Z2 v1 fun c3 => zj c3 fun c4 c5 => pLst 4 c4 fun a0 => zj c5 fun c6 c7 => pInt .i64 c6 fun a1 => zj c7 fun c8 c9 => pInt .i64 c8 fun a2 => pEnd c9 <| zj c2 fun v10 c11 => pLst 38 v10 fun a3 => zj c11 fun v12 c13 => pInt .i64 v12 fun a4 => zj c13 fun v14 c15 => pLst 25 v14 fun a5 => zj c15 fun v16 c17 => pInt .i64 v16 fun a6 => pEnd c17 <| pEnd b <| some (a0, a1, a2, a3, a4, a5, a6)
  args := fun x => [(AV.agg [(AV.list 4 x.1 none), (AV.v (.int .i64 x.2.1)), (AV.v (.int .i64 x.2.2.1))]), (AV.list 38 x.2.2.2.1 none), (AV.v (.int .i64 x.2.2.2.2.1)), (AV.list 25 x.2.2.2.2.2.1 none), (AV.v (.int .i64 x.2.2.2.2.2.2))]
  bs := fun x => []
  ret := fun y => ⟨(AV.tup [(AV.list 38 y.1 (some 2560000000)), (AV.list 30 y.2.1 (some 2560000001)), (AV.v (.int .i64 y.2.2))]), [], none, [], [2560000000, 2560000001], []⟩
  t := fun x α k => (match F55_d N x with | some y1 => (match (y1 != 0) with | true => (k (([] : List (List AV)), ([] : List (List AV)), y1)) | false => (match zmE N (x.2.2.2.1, x.2.2.2.2.2.1) with | some y2 => (match zkE N (([] : List (List AV)), ([] : List (List AV)), x.2.2.2.1, x.2.2.2.2.2.1, x.2.2.2.2.1, x.2.2.2.2.2.2, y2.1, 0, x.1, x.2.1, x.2.2.1, ((y2.2.map dat0).map dat0)) with | some y80 => (match zjn N (y80.1, y80.2.1, y80.2.2.1, y80.2.2.2.1, y80.2.2.2.2.1, y80.2.2.2.2.2.1, 0, y80.2.2.2.2.2.2.1, y80.2.2.2.2.2.2.2.1, y80.2.2.2.2.2.2.2.2.1, (y80.2.2.2.2.2.2.2.2.2.map dat0)) with | some y92 => (match (decide ((y92.1.length : Int) > 200)) with | true => (k (([] : List (List AV)), ([] : List (List AV)), 8)) | false => (match (decide ((i64 (y92.2.2 + (y92.2.1.length : Int))) > 1000)) with | true => (match (decide ((y92.2.1.length : Int) > 0)) with | true => (k (([] : List (List AV)), ([] : List (List AV)), 8)) | false => (k (y92.1, y92.2.1, 0))) | false => (k (y92.1, y92.2.1, 0)))) | none => none) | none => none) | none => none)) | none => none)
noncomputable abbrev F37_d (N : Nat) (x : (List (List AV)) × Int × Int × (List (List AV)) × Int × (List (List AV)) × Int) : Option ((List (List AV)) × (List (List AV)) × Int) := (zcE N).d x
noncomputable def ZQ (N : Nat) : List (Nat × LSpec) := [(12, Zf N), (22, je N), (27, jd N), (28, jh N), (29, jf N), (39, zX N)]
noncomputable def ZM : Code := Try.f37.body.getD .skip
theorem zki (N : Nat) : Par (zX N).b := by
  intro x α β kn ke kn' ke' r r' h h1 h2
  revert h
  dsimp only [zX]
  (repeat' (first | (with_reducible refine zf ?_ ?_) | (with_reducible refine zc ?_ ?_) | split)) <;> intro h <;> first | exact h1 _ h | exact h2 _ h | (cases h; done)
theorem zi6 (N : Nat) : BdOk (tabB Try.prog [34]) (zfY N) zP N (ZQ N) 39 ZM (zX N) := fun x α kn ke => by kernel_rfl
theorem zht (N : Nat) : LpOk Try.prog zP N (ZQ N) 39 (zd 39 ZM) :=
  zD (zM Try.prog [34]) (zk _) zn zP N (ZQ N) 39 ZM (l := []) (by kernel_rfl) (by kernel_rfl) an (zX N) rfl (fun s x hc h => by dsimp only [zX] at h; exact zH hc h (fun _ _ => rfl) rfl rfl) (fun _ => rfl) (zi6 N) (zki N)
theorem zjs (N : Nat) : Par (jf N).b := by
  intro x α β kn ke kn' ke' r r' h h1 h2
  revert h
  dsimp only [jf]
  (repeat' (first | (with_reducible refine zf ?_ ?_) | (with_reducible refine zc ?_ ?_) | split)) <;> intro h <;> first | exact h1 _ h | exact h2 _ h | (cases h; done)
theorem zja (N : Nat) : PcOk (tabB Try.prog [34]) (zfY N) zP N (ZQ N) 29 ZM (jf N) := fun x α kn ke => by kernel_rfl
theorem Jy (N : Nat) : LpOk Try.prog zP N (ZQ N) 29 (zd 29 ZM) :=
  Jm (zM Try.prog [34]) (zk _) zn zP N (ZQ N) 29 ZM (l := []) (by kernel_rfl) an (jf N) rfl (fun s x hc h => by dsimp only [jf] at h; exact zH hc h (fun _ _ => rfl) rfl rfl) (zja N) (zjs N)
theorem zmy (N : Nat) : Par (jh N).b := by
  intro x α β kn ke kn' ke' r r' h h1 h2
  revert h
  dsimp only [jh]
  (repeat' (first | (with_reducible refine zf ?_ ?_) | (with_reducible refine zc ?_ ?_) | split)) <;> intro h <;> first | exact h1 _ h | exact h2 _ h | (cases h; done)
theorem ziF (N : Nat) : PcOk (tabB Try.prog [34]) (zfY N) zP N (ZQ N) 28 ZM (jh N) := fun x α kn ke => by kernel_rfl
theorem zaA (N : Nat) : LpOk Try.prog zP N (ZQ N) 28 (zd 28 ZM) :=
  Jm (zM Try.prog [34]) (zk _) zn zP N (ZQ N) 28 ZM (l := [(29, zd 29 ZM)]) (by kernel_rfl) (al (Jy N) an) (jh N) rfl (fun s x hc h => by dsimp only [jh] at h; exact zH hc h (fun _ _ => rfl) rfl rfl) (ziF N) (zmy N)
theorem zme (N : Nat) : Par (jd N).b := by
  intro x α β kn ke kn' ke' r r' h h1 h2
  revert h
  dsimp only [jd]
  (repeat' (first | (with_reducible refine zf ?_ ?_) | (with_reducible refine zc ?_ ?_) | split)) <;> intro h <;> first | exact h1 _ h | exact h2 _ h | (cases h; done)
theorem ziv (N : Nat) : PcOk (tabB Try.prog [34]) (zfY N) zP N (ZQ N) 27 ZM (jd N) := fun x α kn ke => by kernel_rfl
theorem zdj (N : Nat) : LpOk Try.prog zP N (ZQ N) 27 (zd 27 ZM) :=
  Jm (zM Try.prog [34]) (zk _) zn zP N (ZQ N) 27 ZM (l := [(28, zd 28 ZM), (29, zd 29 ZM)]) (by kernel_rfl) (al (zaA N) (al (Jy N) an)) (jd N) rfl (fun s x hc h => by dsimp only [jd] at h; exact zH hc h (fun _ _ => rfl) rfl rfl) (ziv N) (zme N)
theorem zkL (N : Nat) : Par (je N).b := by
  intro x α β kn ke kn' ke' r r' h h1 h2
  revert h
  dsimp only [je]
  (repeat' (first | (with_reducible refine zf ?_ ?_) | (with_reducible refine zc ?_ ?_) | split)) <;> intro h <;> first | exact h1 _ h | exact h2 _ h | (cases h; done)
theorem zis (N : Nat) : PcOk (tabB Try.prog [34]) (zfY N) zP N (ZQ N) 22 ZM (je N) := fun x α kn ke => by kernel_rfl
theorem zc1 (N : Nat) : LpOk Try.prog zP N (ZQ N) 22 (zd 22 ZM) :=
  Jm (zM Try.prog [34]) (zk _) zn zP N (ZQ N) 22 ZM (l := []) (by kernel_rfl) an (je N) rfl (fun s x hc h => by dsimp only [je] at h; exact zH hc h (fun _ _ => rfl) rfl rfl) (zis N) (zkL N)
theorem zj2 (N : Nat) : Par (Zf N).b := by
  intro x α β kn ke kn' ke' r r' h h1 h2
  revert h
  dsimp only [Zf]
  (repeat' (first | (with_reducible refine zf ?_ ?_) | (with_reducible refine zc ?_ ?_) | split)) <;> intro h <;> first | exact h1 _ h | exact h2 _ h | (cases h; done)
theorem zhy (N : Nat) : BdOk (tabB Try.prog [34]) (zfY N) zP N (ZQ N) 12 ZM (Zf N) := fun x α kn ke => by kernel_rfl
theorem zhW (N : Nat) : LpOk Try.prog zP N (ZQ N) 12 (zd 12 ZM) :=
  zD (zM Try.prog [34]) (zk _) zn zP N (ZQ N) 12 ZM (l := [(22, zd 22 ZM), (27, zd 27 ZM), (28, zd 28 ZM), (29, zd 29 ZM)]) (by kernel_rfl) (by kernel_rfl) (al (zc1 N) (al (zdj N) (al (zaA N) (al (Jy N) an)))) (Zf N) rfl (fun s x hc h => by dsimp only [Zf] at h; exact zH hc h (fun _ _ => rfl) rfl rfl) (fun _ => rfl) (zhy N) (zj2 N)
theorem F37_parF (N : Nat) : ParF (zcE N).t := by
  intro x α β k k' r r' h h1
  revert h
  dsimp only [zcE]
  (repeat' (first | (with_reducible refine zf ?_ ?_) | (with_reducible refine zc ?_ ?_) | split)) <;> intro h <;> first | exact h1 _ h | (cases h; done)
theorem F37_text (N : Nat) : TxOk (tabB Try.prog [34]) (zfY N) zP (lam N (ZQ N)) Try.f37 (zcE N) := fun x => by kernel_rfl
theorem F37_pat (N : Nat) (a : List AV) (b : List (List AV)) (x : (zcE N).X) (h : (zcE N).pat a b = some x) : a = (zcE N).args x ∧ b = (zcE N).bs x := by
  obtain ⟨v1, c2, rfl, g0⟩ := zb (show zj _ _ = some x from h)
  obtain ⟨c3, rfl, g1⟩ := zJ g0; clear g0
  obtain ⟨c4, c5, rfl, g2⟩ := zb g1; clear g1
  obtain ⟨a0, rfl, g3⟩ := zy g2; clear g2
  obtain ⟨c6, c7, rfl, g4⟩ := zb g3; clear g3
  obtain ⟨a1, rfl, g5⟩ := zi g4; clear g4
  obtain ⟨c8, c9, rfl, g6⟩ := zb g5; clear g5
  obtain ⟨a2, rfl, g7⟩ := zi g6; clear g6
  obtain ⟨rfl, g8⟩ := zg g7; clear g7
  obtain ⟨v10, c11, rfl, g9⟩ := zb g8; clear g8
  obtain ⟨a3, rfl, g10⟩ := zy g9; clear g9
  obtain ⟨v12, c13, rfl, g11⟩ := zb g10; clear g10
  obtain ⟨a4, rfl, g12⟩ := zi g11; clear g11
  obtain ⟨v14, c15, rfl, g13⟩ := zb g12; clear g12
  obtain ⟨a5, rfl, g14⟩ := zy g13; clear g13
  obtain ⟨v16, c17, rfl, g15⟩ := zb g14; clear g14
  obtain ⟨a6, rfl, g16⟩ := zi g15; clear g15
  obtain ⟨rfl, g17⟩ := zg g16; clear g16
  obtain ⟨rfl, g18⟩ := zg g17; clear g17
  clear h
  cases g18
  exact ⟨rfl, rfl⟩
noncomputable def F37_e (N : Nat) : Ent Try.prog := zC (zM Try.prog [34]) (zk _) zn 37 Try.f37 Try.func37 rfl zP (lam N (ZQ N)) (zq (l := [(12, zd 12 ZM), (22, zd 22 ZM), (27, zd 27 ZM), (28, zd 28 ZM), (29, zd 29 ZM), (39, zd 39 ZM)]) (al (zhW N) (al (zc1 N) (al (zdj N) (al (zaA N) (al (Jy N) (al (zht N) an)))))) (by kernel_rfl)) (zcE N) (fun _ => ⟨rfl, rfl⟩) (F37_text N) (F37_pat N) (F37_parF N)
end Go.Proofs.Ytnnfpoelkdgjdaa
end
section
namespace Go.Proofs.Ytnnfpoelkdgjdaa
open Go.RowKit
set_option linter.unusedVariables false
set_option linter.unusedSimpArgs false
set_option linter.unnecessarySimpa false
set_option maxRecDepth 4000
def F7_an : Nat → Keep × Keep := anL []
noncomputable def F7_g (N : Nat) : GamK := gam (P := Try.prog) []
noncomputable def F7_s (N : Nat) : FSpec where
  X := (List (List AV))
  Y := (List (List AV)) × Int
  ash := [[some 1]]
  bsh := []
  S := ⟨[[none]], [], [some 1, none], [], []⟩
  bm := false
  pat := fun a b => rdA [.lst 1] [] a b fun ⟨a0, _⟩ _ => a0
  args := fun x => [(AV.list 1 x none)]
  bs := fun x => []
  ret := fun y => ⟨(AV.ptr 0 0), [], some [(AV.list 1 y.1 none), (AV.v (.int .i64 y.2))], [], [], []⟩
  t := fun x α k => (if 0 ≤ (if 2000 < (x.length : Int) then 2000 else (x.length : Int)) ∧ (if 2000 < (x.length : Int) then 2000 else (x.length : Int)) ≤ x.length then (k ((x.take (if 2000 < (x.length : Int) then 2000 else (x.length : Int)).toNat), 0)) else none)
noncomputable abbrev F7_d (N : Nat) (x : (List (List AV))) : Option ((List (List AV)) × Int) := (F7_s N).d x
theorem F7_parF (N : Nat) : ParF (F7_s N).t := by
  intro x α β k k' r r' h h1
  revert h
  dsimp only [F7_s]
  (repeat' (first | (with_reducible refine zf ?_ ?_) | (with_reducible refine zc ?_ ?_) | split)) <;> intro h <;> first | exact h1 _ h | (cases h; done)
theorem F7_text (N : Nat) : TxOk (zt Try.prog) (F7_g N) F7_an (lam N []) Try.f7 (F7_s N) := fun x => by kernel_rfl
noncomputable def F7_e (N : Nat) : Ent Try.prog := zC (ze Try.prog) (zk _) zn 7 Try.f7 Try.func7 rfl F7_an (lam N []) (zq (l := []) an (by kernel_rfl)) (F7_s N) (fun _ => ⟨rfl, rfl⟩) (F7_text N) (fun _ _ _ h => zB h (fun _ _ => rfl) (fun _ _ => rfl)) (F7_parF N)
def F25_an : Nat → Keep × Keep := anL []
noncomputable def F25_g (N : Nat) : GamK := gam (P := Try.prog) []
noncomputable def zjg (N : Nat) : FSpec where
  X := (List (List AV)) × Int
  Y := Int × (List (List AV)) × Int
  ash := [[none]]
  bsh := [[some 1, none]]
  S := ⟨[[none]], [[some 1, none]], [], [], []⟩
  bm := false
  pat := fun a b => rdA [.ptr 0 0] [.cells [.lst 1, .int .i64]] a b fun ⟨_, _⟩ ⟨⟨a0, a1, _⟩, _⟩ => (a0, a1)
  args := fun x => [(AV.ptr 0 0)]
  bs := fun x => [[(AV.list 1 x.1 none), (AV.v (.int .i64 x.2))]]
  ret := fun y => ⟨(AV.v (.int .i64 y.1)), [[(AV.list 1 y.2.1 none), (AV.v (.int .i64 y.2.2))]], none, [], [], []⟩
  t := fun x α k => (match (decide (x.2 ≥ (x.1.length : Int))) with | true => (k (0, x)) | false => (if 0 ≤ (i64 ((i64 (x.2 + 1)) - 1)) then (match x.1[(i64 ((i64 (x.2 + 1)) - 1)).toNat]? with | some c1 => (match c1[0]? with | some x2 => (match x2 with | .v (.int q4 n3) => (if q4 = .i64 then (k (n3, x.1, (i64 (x.2 + 1)))) else none) | _ => none) | none => none) | none => none) else none))
noncomputable abbrev F25_d (N : Nat) (x : (List (List AV)) × Int) : Option (Int × (List (List AV)) × Int) := (zjg N).d x
theorem F25_parF (N : Nat) : ParF (zjg N).t := by
  intro x α β k k' r r' h h1
  revert h
  dsimp only [zjg]
  (repeat' (first | (with_reducible refine zf ?_ ?_) | (with_reducible refine zc ?_ ?_) | split)) <;> intro h <;> first | exact h1 _ h | (cases h; done)
theorem F25_text (N : Nat) : TxOk (zt Try.prog) (F25_g N) F25_an (lam N []) Try.f25 (zjg N) := fun x => by kernel_rfl
noncomputable def F25_e (N : Nat) : Ent Try.prog := zC (ze Try.prog) (zk _) zn 25 Try.f25 Try.func25 rfl F25_an (lam N []) (zq (l := []) an (by kernel_rfl)) (zjg N) (fun _ => ⟨rfl, rfl⟩) (F25_text N) (fun _ _ _ h => zB h (fun _ _ => rfl) (fun _ _ => rfl)) (F25_parF N)
def F24_an : Nat → Keep × Keep := anL []
noncomputable def F24_g (N : Nat) : GamK := gam (P := Try.prog) []
noncomputable def zh0 (N : Nat) : FSpec where
  X := Int × Int
  Y := Int
  ash := [[none], [none]]
  bsh := []
  S := ⟨[[none]], [], [], [], []⟩
  bm := false
  pat := fun a b => rdA [.int .i64, .int .i64] [] a b fun ⟨a0, a1, _⟩ _ => (a0, a1)
  args := fun x => [(AV.v (.int .i64 x.1)), (AV.v (.int .i64 x.2))]
  bs := fun x => []
  ret := fun y => ⟨(AV.v (.int .i64 y)), [], none, [], [], []⟩
  t := fun x α k => (match (decide (x.2 < 1)) with | true => (k 0) | false => (if x.2 = 0 then none else (match (decide ((x.1.tmod x.2) < 0)) with | true => (k (i64 ((x.1.tmod x.2) + x.2))) | false => (k (x.1.tmod x.2)))))
noncomputable abbrev F24_d (N : Nat) (x : Int × Int) : Option (Int) := (zh0 N).d x
theorem F24_parF (N : Nat) : ParF (zh0 N).t := by
  intro x α β k k' r r' h h1
  revert h
  dsimp only [zh0]
  (repeat' (first | (with_reducible refine zf ?_ ?_) | (with_reducible refine zc ?_ ?_) | split)) <;> intro h <;> first | exact h1 _ h | (cases h; done)
theorem F24_text (N : Nat) : TxOk (zt Try.prog) (F24_g N) F24_an (lam N []) Try.f24 (zh0 N) := fun x => by kernel_rfl
noncomputable def F24_e (N : Nat) : Ent Try.prog := zC (ze Try.prog) (zk _) zn 24 Try.f24 Try.func24 rfl F24_an (lam N []) (zq (l := []) an (by kernel_rfl)) (zh0 N) (fun _ => ⟨rfl, rfl⟩) (F24_text N) (fun _ _ _ h => zB h (fun _ _ => rfl) (fun _ _ => rfl)) (F24_parF N)
def F9_an : Nat → Keep × Keep := anL []
noncomputable def F9_g (N : Nat) : GamK := gam (P := Try.prog) [F25_e N, F24_e N]
noncomputable def F9_s (N : Nat) : FSpec where
  X := Int × (List (List AV)) × Int
  Y := Int × (List (List AV)) × Int
  ash := [[none], [none]]
  bsh := [[some 1, none]]
  S := ⟨[[none]], [[some 1, none]], [], [], []⟩
  bm := false
  pat := fun a b => rdA [.ptr 0 0, .int .i64] [.cells [.lst 1, .int .i64]] a b fun ⟨_, a0, _⟩ ⟨⟨a1, a2, _⟩, _⟩ => (a0, a1, a2)
  args := fun x => [(AV.ptr 0 0), (AV.v (.int .i64 x.1))]
  bs := fun x => [[(AV.list 1 x.2.1 none), (AV.v (.int .i64 x.2.2))]]
  ret := fun y => ⟨(AV.v (.int .i64 y.1)), [[(AV.list 1 y.2.1 none), (AV.v (.int .i64 y.2.2))]], none, [], [], []⟩
  t := fun x α k => (match F25_d N x.2 with | some y1 => (match F24_d N (y1.1, x.1) with | some y2 => (k (y2, y1.2)) | none => none) | none => none)
noncomputable abbrev F9_d (N : Nat) (x : Int × (List (List AV)) × Int) : Option (Int × (List (List AV)) × Int) := (F9_s N).d x
theorem F9_parF (N : Nat) : ParF (F9_s N).t := by
  intro x α β k k' r r' h h1
  revert h
  dsimp only [F9_s]
  (repeat' (first | (with_reducible refine zf ?_ ?_) | (with_reducible refine zc ?_ ?_) | split)) <;> intro h <;> first | exact h1 _ h | (cases h; done)
theorem F9_text (N : Nat) : TxOk (zt Try.prog) (F9_g N) F9_an (lam N []) Try.f9 (F9_s N) := fun x => by kernel_rfl
noncomputable def F9_e (N : Nat) : Ent Try.prog := zC (ze Try.prog) (zk _) zn 9 Try.f9 Try.func9 rfl F9_an (lam N []) (zq (l := []) an (by kernel_rfl)) (F9_s N) (fun _ => ⟨rfl, rfl⟩) (F9_text N) (fun _ _ _ h => zB h (fun _ _ => rfl) (fun _ _ => rfl)) (F9_parF N)
def F23_an : Nat → Keep × Keep := anL []
noncomputable def F23_g (N : Nat) : GamK := gam (P := Try.prog) [F9_e N]
noncomputable def ziz (N : Nat) : FSpec where
  X := (List (List AV)) × (List (List AV)) × Int
  Y := Int × (List (List AV)) × Int
  ash := [[none], [some 1]]
  bsh := [[some 1, none]]
  S := ⟨[[none]], [[some 1, none]], [], [], []⟩
  bm := false
  pat := fun a b => rdA [.ptr 0 0, .lst 1] [.cells [.lst 1, .int .i64]] a b fun ⟨_, a0, _⟩ ⟨⟨a1, a2, _⟩, _⟩ => (a0, a1, a2)
  args := fun x => [(AV.ptr 0 0), (AV.list 1 x.1 none)]
  bs := fun x => [[(AV.list 1 x.2.1 none), (AV.v (.int .i64 x.2.2))]]
  ret := fun y => ⟨(AV.v (.int .i64 y.1)), [[(AV.list 1 y.2.1 none), (AV.v (.int .i64 y.2.2))]], none, [], [], []⟩
  t := fun x α k => (match F9_d N ((x.1.length : Int), x.2) with | some y1 => (if 0 ≤ y1.1 then (match x.1[y1.1.toNat]? with | some c2 => (match c2[0]? with | some x3 => (match x3 with | .v (.int q5 n4) => (if q5 = .i64 then (k (n4, y1.2)) else none) | _ => none) | none => none) | none => none) else none) | none => none)
noncomputable abbrev zbd (N : Nat) (x : (List (List AV)) × (List (List AV)) × Int) : Option (Int × (List (List AV)) × Int) := (ziz N).d x
theorem F23_parF (N : Nat) : ParF (ziz N).t := by
  intro x α β k k' r r' h h1
  revert h
  dsimp only [ziz]
  (repeat' (first | (with_reducible refine zf ?_ ?_) | (with_reducible refine zc ?_ ?_) | split)) <;> intro h <;> first | exact h1 _ h | (cases h; done)
theorem F23_text (N : Nat) : TxOk (zt Try.prog) (F23_g N) F23_an (lam N []) Try.f23 (ziz N) := fun x => by kernel_rfl
noncomputable def F23_e (N : Nat) : Ent Try.prog := zC (ze Try.prog) (zk _) zn 23 Try.f23 Try.func23 rfl F23_an (lam N []) (zq (l := []) an (by kernel_rfl)) (ziz N) (fun _ => ⟨rfl, rfl⟩) (F23_text N) (fun _ _ _ h => zB h (fun _ _ => rfl) (fun _ _ => rfl)) (F23_parF N)
def zeK : Nat → Keep × Keep := anL [(5, ⟨[0, 2, 3, 4], [], [0, 2, 3], [], [((2, 0), 4), ((3, 0), 4)], [], [], [], false⟩, ⟨[2, 3], [], [0, 2, 3], [], [((2, 0), 4), ((3, 0), 4)], [], [], [], false⟩)]
noncomputable def F8_g (N : Nat) : GamK := gam (P := Try.prog) [F23_e N, F9_e N]
noncomputable def JF (N : Nat) : LSpec where
  X := Int × (List (List AV)) × Int × (List (List AV)) × Int × Int × (List (List AV)) × Int × Int
  Y := ((List (List AV)) × Int × (List (List AV)) × Int × Int × (List (List AV)) × Int × Int)
  p := fun s => rdS 38 1 [(0, .ptr 0 0), (2, .ptr 2 0), (3, .ptr 3 0), (4, .int .i64)] [(0, .cells [.lst 1, .int .i64]), (2, .cells [.tok 4 6400524288, .int .i64, .int .i64]), (3, .cells [.tok 4 6400786432, .int .i64, .int .i64])] s fun ⟨_, _, _, a0, _⟩ ⟨⟨a1, a2, _⟩, ⟨a3, a4, a5, _⟩, ⟨a6, a7, a8, _⟩, _⟩ => (a0, a1, a2, a3, a4, a5, a6, a7, a8)
  st := fun u5 => mkS 38 [(0, (AV.ptr 0 0)), (2, (AV.ptr 2 0)), (3, (AV.ptr 3 0)), (4, (AV.v (.int .i64 u5.1)))] [(0, [(AV.list 1 u5.2.1 none), (AV.v (.int .i64 u5.2.2.1))]), (2, [(AV.list 4 u5.2.2.2.1 (some 6400524288)), (AV.v (.int .i64 u5.2.2.2.2.1)), (AV.v (.int .i64 u5.2.2.2.2.2.1))]), (3, [(AV.list 4 u5.2.2.2.2.2.2.1 (some 6400786432)), (AV.v (.int .i64 u5.2.2.2.2.2.2.2.1)), (AV.v (.int .i64 u5.2.2.2.2.2.2.2.2))])] (zeK 5).1.toks 1
  out := fun y => (.exit 0, mkS 38 [(2, (AV.ptr 2 0)), (3, (AV.ptr 3 0))] [(0, [(AV.list 1 y.1 none), (AV.v (.int .i64 y.2.1))]), (2, [(AV.list 4 y.2.2.1 (some 6400524288)), (AV.v (.int .i64 y.2.2.2.1)), (AV.v (.int .i64 y.2.2.2.2.1))]), (3, [(AV.list 4 y.2.2.2.2.2.1 (some 6400786432)), (AV.v (.int .i64 y.2.2.2.2.2.2.1)), (AV.v (.int .i64 y.2.2.2.2.2.2.2))])] (zeK 5).2.toks 1)
  sp := fun y α k => k (.exit 0, mkS 38 [(2, (AV.ptr 2 0)), (3, (AV.ptr 3 0))] [(0, [(AV.list 1 y.1 none), (AV.v (.int .i64 y.2.1))]), (2, [(AV.list 4 y.2.2.1 (some 6400524288)), (AV.v (.int .i64 y.2.2.2.1)), (AV.v (.int .i64 y.2.2.2.2.1))]), (3, [(AV.list 4 y.2.2.2.2.2.1 (some 6400786432)), (AV.v (.int .i64 y.2.2.2.2.2.2.1)), (AV.v (.int .i64 y.2.2.2.2.2.2.2))])] (zeK 5).2.toks 1)
  spe := fun y α k => rfl
  b := fun u5 α kn ke => (match (decide (u5.1 > 0)) with | true => (match F9_d N (400, u5.2.1, u5.2.2.1) with | some y8 => (match F9_d N (4, y8.2) with | some y9 => (match zbd N ([[(AV.v (.int .i64 0))], [(AV.v (.int .i64 10))], [(AV.v (.int .i64 100))], [(AV.v (.int .i64 10000))]], y9.2) with | some y10 => (match zbd N ([[(AV.v (.int .i64 0))], [(AV.v (.int .i64 500))], [(AV.v (.int .i64 2000))], [(AV.v (.int .i64 100000))]], y10.2) with | some y11 => (if (u5.2.2.2.2.2.2.1.length + [(Ren4 ((i64 (y8.1 - 100)), (i64 (1 + y9.1)), y10.1, y11.1, ()))].length) * 32 ≤ zl then (kn ((i64 (u5.1 - 1)), y11.2.1, y11.2.2, u5.2.2.2.1, u5.2.2.2.2.1, u5.2.2.2.2.2.1, (u5.2.2.2.2.2.2.1 ++ [(Ren4 ((i64 (y8.1 - 100)), (i64 (1 + y9.1)), y10.1, y11.1, ()))]), u5.2.2.2.2.2.2.2)) else none) | none => none) | none => none) | none => none) | none => none) | false => (ke u5.2))
noncomputable abbrev F8_d5 (N : Nat) (x : Int × (List (List AV)) × Int × (List (List AV)) × Int × Int × (List (List AV)) × Int × Int) : Option (((List (List AV)) × Int × (List (List AV)) × Int × Int × (List (List AV)) × Int × Int)) := (JF N).L N x
noncomputable def F8_s (N : Nat) : FSpec where
  X := (List (List AV)) × Int
  Y := (List (List AV)) × Int × Int × (List (List AV)) × Int
  ash := [[none]]
  bsh := [[some 1, none]]
  S := ⟨[[some 4, none, none]], [[some 1, none]], [], [], []⟩
  bm := false
  pat := fun a b => rdA [.ptr 0 0] [.cells [.lst 1, .int .i64]] a b fun ⟨_, _⟩ ⟨⟨a0, a1, _⟩, _⟩ => (a0, a1)
  args := fun x => [(AV.ptr 0 0)]
  bs := fun x => [[(AV.list 1 x.1 none), (AV.v (.int .i64 x.2))]]
  ret := fun y => ⟨(AV.agg [(AV.list 4 y.1 none), (AV.v (.int .i64 y.2.1)), (AV.v (.int .i64 y.2.2.1))]), [[(AV.list 1 y.2.2.2.1 none), (AV.v (.int .i64 y.2.2.2.2))]], none, [], [], []⟩
  t := fun x α k => (match zbd N ([[(AV.v (.int .i64 0))], [(AV.v (.int .i64 2))], [(AV.v (.int .i64 10))], [(AV.v (.int .i64 1000))]], x) with | some y1 => (match zbd N ([[(AV.v (.int .i64 0))], [(AV.v (.int .i64 0))], [(AV.v (.int .i64 50))], [(AV.v (.int .i64 500))]], y1.2) with | some y2 => (match F9_d N (3, y2.2) with | some y3 => (match F8_d5 N ((i64 (1 + y3.1)), y3.2.1, y3.2.2, ([] : List (List AV)), 0, 0, ([] : List (List AV)), y1.1, y2.1) with | some y12 => (k (y12.2.2.2.2.2.1, y12.2.2.2.2.2.2.1, y12.2.2.2.2.2.2.2, y12.1, y12.2.1)) | none => none) | none => none) | none => none) | none => none)
noncomputable abbrev F8_d (N : Nat) (x : (List (List AV)) × Int) : Option ((List (List AV)) × Int × Int × (List (List AV)) × Int) := (F8_s N).d x
noncomputable def zlm (N : Nat) : List (Nat × LSpec) := [(5, JF N)]
noncomputable def F8_c : Code := Try.f8.body.getD .skip
theorem F8_par5 (N : Nat) : Par (JF N).b := by
  intro x α β kn ke kn' ke' r r' h h1 h2
  revert h
  dsimp only [JF]
  (repeat' (first | (with_reducible refine zf ?_ ?_) | (with_reducible refine zc ?_ ?_) | split)) <;> intro h <;> first | exact h1 _ h | exact h2 _ h | (cases h; done)
theorem F8_body5 (N : Nat) : BdOk (zt Try.prog) (F8_g N) zeK N (zlm N) 5 F8_c (JF N) := fun x α kn ke => by kernel_rfl
theorem F8_loop5 (N : Nat) : LpOk Try.prog zeK N (zlm N) 5 (zd 5 F8_c) :=
  zD (ze Try.prog) (zk _) zn zeK N (zlm N) 5 F8_c (l := []) (by kernel_rfl) (by kernel_rfl) an (JF N) rfl (fun s x hc h => by dsimp only [JF] at h; exact zH hc h (fun _ _ => rfl) rfl rfl) (fun _ => rfl) (F8_body5 N) (F8_par5 N)
theorem F8_parF (N : Nat) : ParF (F8_s N).t := by
  intro x α β k k' r r' h h1
  revert h
  dsimp only [F8_s]
  (repeat' (first | (with_reducible refine zf ?_ ?_) | (with_reducible refine zc ?_ ?_) | split)) <;> intro h <;> first | exact h1 _ h | (cases h; done)
theorem F8_text (N : Nat) : TxOk (zt Try.prog) (F8_g N) zeK (lam N (zlm N)) Try.f8 (F8_s N) := fun x => by kernel_rfl
noncomputable def F8_e (N : Nat) : Ent Try.prog := zC (ze Try.prog) (zk _) zn 8 Try.f8 Try.func8 rfl zeK (lam N (zlm N)) (zq (l := [(5, zd 5 F8_c)]) (al (F8_loop5 N) an) (by kernel_rfl)) (F8_s N) (fun _ => ⟨rfl, rfl⟩) (F8_text N) (fun _ _ _ h => zB h (fun _ _ => rfl) (fun _ _ => rfl)) (F8_parF N)
abbrev RK8 : List Ck := [.str, .str, .str, .str, .int .i64, .int .i64, .int .i64, .int .i64, .int .i64, .tk 9 6401049152, .int .i64, .int .i64, .int .i64, .int .i64, .int .i64, .int .i64, .int .i64, .int .i64, .int .i64, .int .i64, .int .i64, .int .i64, .int .i64, .int .i64, .int .i64]
abbrev RT8 : Type := ByteArray × ByteArray × ByteArray × ByteArray × Int × Int × Int × Int × Int × (List (List AV)) × Int × Int × Int × Int × Int × Int × Int × Int × Int × Int × Int × Int × Int × Int × Int × Unit
def Ren8 (e : RT8) : List AV := enc RK8 e
def F35_an : Nat → Keep × Keep := anL []
noncomputable def F35_g (N : Nat) : GamK := gam (P := Try.prog) [F24_e N]
noncomputable def zli (N : Nat) : FSpec where
  X := Int
  Y := RT2
  ash := [[none]]
  bsh := []
  S := ⟨[[none, none, none, none]], [], [], [], []⟩
  bm := false
  pat := fun a b => rdA [.int .i64] [] a b fun ⟨a0, _⟩ _ => a0
  args := fun x => [(AV.v (.int .i64 x))]
  bs := fun x => []
  ret := fun y => ⟨(AV.agg (Ren2 y)), [], none, [], [], []⟩
  t := fun x α k => (match F24_d N (x, 6) with | some y1 => (if 0 ≤ y1 then (match [[(AV.v (.string (⟨#[83, 49]⟩ : ByteArray)))], [(AV.v (.string (⟨#[83, 50]⟩ : ByteArray)))], [(AV.v (.string (⟨#[83, 51]⟩ : ByteArray)))], [(AV.v (.string (⟨#[83, 52]⟩ : ByteArray)))], [(AV.v (.string (⟨#[83, 53]⟩ : ByteArray)))], [(AV.v (.string (⟨#[83, 54]⟩ : ByteArray)))]][y1.toNat]? with | some c2 => (match c2[0]? with | some x3 => (match x3 with | .v (.string s4) => (k ((⟨#[65, 66]⟩ : ByteArray), s4, (⟨#[48, 48]⟩ : ByteArray), (⟨#[66, 72, 90]⟩ : ByteArray), ())) | _ => none) | none => none) | none => none) else none) | none => none)
noncomputable abbrev F35_d (N : Nat) (x : Int) : Option (RT2) := (zli N).d x
theorem F35_parF (N : Nat) : ParF (zli N).t := by
  intro x α β k k' r r' h h1
  revert h
  dsimp only [zli]
  (repeat' (first | (with_reducible refine zf ?_ ?_) | (with_reducible refine zc ?_ ?_) | split)) <;> intro h <;> first | exact h1 _ h | (cases h; done)
theorem F35_text (N : Nat) : TxOk (zt Try.prog) (F35_g N) F35_an (lam N []) Try.f35 (zli N) := fun x => by kernel_rfl
noncomputable def F35_e (N : Nat) : Ent Try.prog := zC (ze Try.prog) (zk _) zn 35 Try.f35 Try.func35 rfl F35_an (lam N []) (zq (l := []) an (by kernel_rfl)) (zli N) (fun _ => ⟨rfl, rfl⟩) (F35_text N) (fun _ _ _ h => zB h (fun _ _ => rfl) (fun _ _ => rfl)) (F35_parF N)
def F42_an : Nat → Keep × Keep := anL []
noncomputable def F42_g (N : Nat) : GamK := gam (P := Try.prog) [F9_e N]
noncomputable def ziA (N : Nat) : FSpec where
  X := Int × (List (List AV)) × Int
  Y := Int × Int × Int × (List (List AV)) × Int
  ash := [[none], [none]]
  bsh := [[some 1, none]]
  S := ⟨[[none, none, none]], [[some 1, none]], [], [], []⟩
  bm := false
  pat := fun a b => rdA [.ptr 0 0, .int .i64] [.cells [.lst 1, .int .i64]] a b fun ⟨_, a0, _⟩ ⟨⟨a1, a2, _⟩, _⟩ => (a0, a1, a2)
  args := fun x => [(AV.ptr 0 0), (AV.v (.int .i64 x.1))]
  bs := fun x => [[(AV.list 1 x.2.1 none), (AV.v (.int .i64 x.2.2))]]
  ret := fun y => ⟨(AV.agg [(AV.v (.int .i64 y.1)), (AV.v (.int .i64 y.2.1)), (AV.v (.int .i64 y.2.2.1))]), [[(AV.list 1 y.2.2.2.1 none), (AV.v (.int .i64 y.2.2.2.2))]], none, [], [], []⟩
  t := fun x α k => (match F9_d N ((i64 ((i64 (2 * x.1)) + 1)), x.2) with | some y1 => (match F9_d N ((i64 ((i64 (2 * x.1)) + 1)), y1.2) with | some y2 => (match F9_d N ((i64 (x.1 + 1)), y2.2) with | some y3 => (k ((i64 (y1.1 - x.1)), (i64 (y2.1 - x.1)), y3)) | none => none) | none => none) | none => none)
noncomputable abbrev F42_d (N : Nat) (x : Int × (List (List AV)) × Int) : Option (Int × Int × Int × (List (List AV)) × Int) := (ziA N).d x
theorem F42_parF (N : Nat) : ParF (ziA N).t := by
  intro x α β k k' r r' h h1
  revert h
  dsimp only [ziA]
  (repeat' (first | (with_reducible refine zf ?_ ?_) | (with_reducible refine zc ?_ ?_) | split)) <;> intro h <;> first | exact h1 _ h | (cases h; done)
theorem F42_text (N : Nat) : TxOk (zt Try.prog) (F42_g N) F42_an (lam N []) Try.f42 (ziA N) := fun x => by kernel_rfl
noncomputable def F42_e (N : Nat) : Ent Try.prog := zC (ze Try.prog) (zk _) zn 42 Try.f42 Try.func42 rfl F42_an (lam N []) (zq (l := []) an (by kernel_rfl)) (ziA N) (fun _ => ⟨rfl, rfl⟩) (F42_text N) (fun _ _ _ h => zB h (fun _ _ => rfl) (fun _ _ => rfl)) (F42_parF N)
abbrev RK10 : List Ck := [.str, .str, .str, .str, .int .i64, .int .i64, .int .i64, .int .i64, .int .i64, .vs 2020489 9, .int .i64, .int .i64, .int .i64, .int .i64, .int .i64, .int .i64, .int .i64, .int .i64, .int .i64, .int .i64, .int .i64, .int .i64, .int .i64, .int .i64, .int .i64]
abbrev RT10 : Type := ByteArray × ByteArray × ByteArray × ByteArray × Int × Int × Int × Int × Int × Nat × Int × Int × Int × Int × Int × Int × Int × Int × Int × Int × Int × Int × Int × Int × Int × Unit
def Ren10 (e : RT10) : List AV := enc RK10 e
abbrev RK11 : List Ck := [.str, .str, .str, .str, .int .i64, .int .i64, .int .i64, .int .i64, .int .i64, .vs 1 9, .int .i64, .int .i64, .int .i64, .int .i64, .int .i64, .int .i64, .int .i64, .int .i64, .int .i64, .int .i64, .int .i64, .int .i64, .int .i64, .int .i64, .int .i64]
abbrev RT11 : Type := ByteArray × ByteArray × ByteArray × ByteArray × Int × Int × Int × Int × Int × Nat × Int × Int × Int × Int × Int × Int × Int × Int × Int × Int × Int × Int × Int × Int × Int × Unit
def Ren11 (e : RT11) : List AV := enc RK11 e
def Je : Nat → Keep × Keep := anL [(6, ⟨[0, 1, 4, 5, 6, 7], [], [0, 4, 5], [], [((4, 9), 9)], [], [((5, 9), 9)], [], false⟩, ⟨[0, 4, 5, 6], [], [0, 4, 5], [], [((4, 9), 9)], [], [((5, 9), 9)], [], false⟩)]
noncomputable def F26a_g (N : Nat) : GamK := gam (P := Try.prog) [F9_e N, F35_e N, F42_e N, F23_e N]
noncomputable def Zj (N : Nat) : LSpec where
  X := Int × Int × Int × (List (List AV)) × Int × RT8 × RT10 × (List AV)
  Y := (Int × (List (List AV)) × Int × RT8 × RT10 × (List AV))
  p := fun s => rdS 98 1 [(0, .ptr 0 0), (1, .int .i64), (4, .ptr 4 0), (5, .ptr 5 0), (6, .int .i64), (7, .int .i64)] [(0, .cells [.lst 1, .int .i64]), (4, .row RK8), (5, .row RK10), (2020489, .tt)] s fun ⟨_, a0, _, _, a1, a2, _⟩ ⟨⟨a3, a4, _⟩, a5, a6, a7, _⟩ => (a0, a1, a2, a3, a4, a5, a6, a7)
  st := fun u6 => mkS 98 [(0, (AV.ptr 0 0)), (1, (AV.v (.int .i64 u6.1))), (4, (AV.ptr 4 0)), (5, (AV.ptr 5 0)), (6, (AV.v (.int .i64 u6.2.1))), (7, (AV.v (.int .i64 u6.2.2.1)))] [(0, [(AV.list 1 u6.2.2.2.1 none), (AV.v (.int .i64 u6.2.2.2.2.1))]), (4, (Ren8 u6.2.2.2.2.2.1)), (5, (Ren10 u6.2.2.2.2.2.2.1)), (2020489, u6.2.2.2.2.2.2.2)] (Je 6).1.toks 1
  out := fun y => (.exit 0, mkS 98 [(0, (AV.ptr 0 0)), (4, (AV.ptr 4 0)), (5, (AV.ptr 5 0)), (6, (AV.v (.int .i64 y.1)))] [(0, [(AV.list 1 y.2.1 none), (AV.v (.int .i64 y.2.2.1))]), (4, (Ren8 y.2.2.2.1)), (5, (Ren10 y.2.2.2.2.1)), (2020489, y.2.2.2.2.2)] (Je 6).2.toks 1)
  sp := fun y α k => k (.exit 0, mkS 98 [(0, (AV.ptr 0 0)), (4, (AV.ptr 4 0)), (5, (AV.ptr 5 0)), (6, (AV.v (.int .i64 y.1)))] [(0, [(AV.list 1 y.2.1 none), (AV.v (.int .i64 y.2.2.1))]), (4, (Ren8 y.2.2.2.1)), (5, (Ren10 y.2.2.2.2.1)), (2020489, y.2.2.2.2.2)] (Je 6).2.toks 1)
  spe := fun y α k => rfl
  b := fun u6 α kn ke => (match F9_d N (4, u6.2.2.2.1, u6.2.2.2.2.1) with | some y5 => (match (decide (u6.2.2.1 < (i64 (1 + y5.1)))) with | true => (match F35_d N u6.2.2.1 with | some y6 => (match F9_d N (3, y5.2) with | some y7 => (if u6.2.2.2.2.2.2.1.2.2.2.2.2.2.2.2.2.1 * 9 ≤ u6.2.2.2.2.2.2.2.length ∧ (u6.2.2.2.2.2.2.1.2.2.2.2.2.2.2.2.2.1 + [(Ren1 (y6.1, y6.2.1, y6.2.2.1, y6.2.2.2.1, (i64 (u6.2.1 + (i64 (10 * u6.1)))), (i64 (u6.2.1 + (i64 (10 * u6.1)))), (i64 ((i64 (u6.2.1 + (i64 (10 * u6.1)))) + y7.1)), u6.1, 0, ()))].length) * 104 ≤ zl then (kn (u6.1, u6.2.1, (i64 (u6.2.2.1 + 1)), y7.2.1, y7.2.2, u6.2.2.2.2.2.1, (u6.2.2.2.2.2.2.1.1, u6.2.2.2.2.2.2.1.2.1, u6.2.2.2.2.2.2.1.2.2.1, u6.2.2.2.2.2.2.1.2.2.2.1, u6.2.2.2.2.2.2.1.2.2.2.2.1, u6.2.2.2.2.2.2.1.2.2.2.2.2.1, u6.2.2.2.2.2.2.1.2.2.2.2.2.2.1, u6.2.2.2.2.2.2.1.2.2.2.2.2.2.2.1, u6.2.2.2.2.2.2.1.2.2.2.2.2.2.2.2.1, (u6.2.2.2.2.2.2.1.2.2.2.2.2.2.2.2.2.1 + [(Ren1 (y6.1, y6.2.1, y6.2.2.1, y6.2.2.2.1, (i64 (u6.2.1 + (i64 (10 * u6.1)))), (i64 (u6.2.1 + (i64 (10 * u6.1)))), (i64 ((i64 (u6.2.1 + (i64 (10 * u6.1)))) + y7.1)), u6.1, 0, ()))].length), u6.2.2.2.2.2.2.1.2.2.2.2.2.2.2.2.2.2), ((u6.2.2.2.2.2.2.2.take (u6.2.2.2.2.2.2.1.2.2.2.2.2.2.2.2.2.1 * 9) ++ [(Ren1 (y6.1, y6.2.1, y6.2.2.1, y6.2.2.2.1, (i64 (u6.2.1 + (i64 (10 * u6.1)))), (i64 (u6.2.1 + (i64 (10 * u6.1)))), (i64 ((i64 (u6.2.1 + (i64 (10 * u6.1)))) + y7.1)), u6.1, 0, ()))].flatten).map dat0))) else none) | none => none) | none => none) | false => (ke (u6.2.1, y5.2.1, y5.2.2, u6.2.2.2.2.2.1, u6.2.2.2.2.2.2.1, (u6.2.2.2.2.2.2.2.map dat0)))) | none => none)
noncomputable abbrev zlL (N : Nat) (x : Int × Int × Int × (List (List AV)) × Int × RT8 × RT10 × (List AV)) : Option ((Int × (List (List AV)) × Int × RT8 × RT10 × (List AV))) := (Zj N).L N x
noncomputable def zdo (N : Nat) : FSpec where
  X := Int × (List (List AV)) × Int
  Y := RT11 × (List (List AV)) × Int × (List AV)
  ash := [[none], [none]]
  bsh := [[some 1, none]]
  S := ⟨[[none, none, none, none, none, none, none, none, none, some 9, none, none, none, none, none, none, none, none, none, none, none, none, none, none, none]], [[some 1, none]], [], [], []⟩
  bm := true
  pat := fun a b => rdA [.ptr 0 0, .int .i64] [.cells [.lst 1, .int .i64]] a b fun ⟨_, a0, _⟩ ⟨⟨a1, a2, _⟩, _⟩ => (a0, a1, a2)
  args := fun x => [(AV.ptr 0 0), (AV.v (.int .i64 x.1))]
  bs := fun x => [[(AV.list 1 x.2.1 none), (AV.v (.int .i64 x.2.2))]]
  ret := fun y => ⟨(AV.agg (Ren11 y.1)), [[(AV.list 1 y.2.1 none), (AV.v (.int .i64 y.2.2.1))]], some y.2.2.2, [], [], []⟩
  t := fun x α k => (match F9_d N (300, x.2) with | some y1 => (match zlL N (x.1, (i64 (1000 + y1.1)), 0, y1.2.1, y1.2.2, ((⟨#[]⟩ : ByteArray), (⟨#[]⟩ : ByteArray), (⟨#[]⟩ : ByteArray), (⟨#[]⟩ : ByteArray), 0, 0, 0, 0, 0, ([] : List (List AV)), 0, 0, 0, 0, 0, 0, 0, 0, 0, 0, 0, 0, 0, 0, 0, ()), ((⟨#[]⟩ : ByteArray), (⟨#[]⟩ : ByteArray), (⟨#[]⟩ : ByteArray), (⟨#[]⟩ : ByteArray), 0, 0, 0, 0, 0, 0, 0, 0, 0, 0, 0, 0, 0, 0, 0, 0, 0, 0, 0, 0, 0, ()), ([] : List AV)) with | some y8 => (if 0 ≤ (0 : Int) ∧ (0 : Int) < (y8.2.2.2.2.1.2.2.2.2.2.2.2.2.2.1 : Int) then (match Rrd1 (y8.2.2.2.2.2.drop ((0 + (0 : Int).toNat) * 9)) with | some e9 => (match F42_d N (20, y8.2.1, y8.2.2.1) with | some y10 => (match F9_d N (40, y10.2.2.2) with | some y11 => (match zbd N ([[(AV.v (.int .i64 0))], [(AV.v (.int .i64 0))], [(AV.v (.int .i64 5))], [(AV.v (.int .i64 500))]], y11.2) with | some y12 => (match F9_d N (3, y12.2) with | some y13 => (match (decide (y13.1 > 0)) with | true => (match F9_d N (400, y13.2) with | some y14 => (match F9_d N (60, y14.2) with | some y15 => (k ((e9.1, e9.2.1, e9.2.2.1, e9.2.2.2.1, e9.2.2.2.2.1, e9.2.2.2.2.2.1, e9.2.2.2.2.2.2.1, e9.2.2.2.2.2.2.2.1, e9.2.2.2.2.2.2.2.2.1, y8.2.2.2.2.1.2.2.2.2.2.2.2.2.2.1, y10.1, y10.2.1, y10.2.2.1, (i64 (y8.1 - y11.1)), y12.1, 0, y10.1, y10.2.1, y10.2.2.1, y10.1, y10.2.1, y10.2.2.1, y14.1, (i64 (y14.1 + y15.1)), y13.1, ()), y15.2.1, y15.2.2, (y8.2.2.2.2.2.map dat0))) | none => none) | none => none) | false => (k ((e9.1, e9.2.1, e9.2.2.1, e9.2.2.2.1, e9.2.2.2.2.1, e9.2.2.2.2.2.1, e9.2.2.2.2.2.2.1, e9.2.2.2.2.2.2.2.1, e9.2.2.2.2.2.2.2.2.1, y8.2.2.2.2.1.2.2.2.2.2.2.2.2.2.1, y10.1, y10.2.1, y10.2.2.1, (i64 (y8.1 - y11.1)), y12.1, 0, y10.1, y10.2.1, y10.2.2.1, y10.1, y10.2.1, y10.2.2.1, y8.2.2.2.2.1.2.2.2.2.2.2.2.2.2.2.2.2.2.2.2.2.2.2.2.2.2.2.1, y8.2.2.2.2.1.2.2.2.2.2.2.2.2.2.2.2.2.2.2.2.2.2.2.2.2.2.2.2.1, y13.1, ()), y13.2.1, y13.2.2, (y8.2.2.2.2.2.map dat0)))) | none => none) | none => none) | none => none) | none => none) | none => none) else none) | none => none) | none => none)
noncomputable abbrev zjQ (N : Nat) (x : Int × (List (List AV)) × Int) : Option (RT11 × (List (List AV)) × Int × (List AV)) := (zdo N).d x
noncomputable def zcj (N : Nat) : List (Nat × LSpec) := [(6, Zj N)]
noncomputable def zgJ : Code := Try.f26.body.getD .skip
theorem zjU (N : Nat) : Par (Zj N).b := by
  intro x α β kn ke kn' ke' r r' h h1 h2
  revert h
  dsimp only [Zj]
  (repeat' (first | (with_reducible refine zf ?_ ?_) | (with_reducible refine zc ?_ ?_) | split)) <;> intro h <;> first | exact h1 _ h | exact h2 _ h | (cases h; done)
theorem ziS (N : Nat) : BdOk (tabB Try.prog [41]) (F26a_g N) Je N (zcj N) 6 zgJ (Zj N) := fun x α kn ke => by kernel_rfl
theorem zhz (N : Nat) : LpOk Try.prog Je N (zcj N) 6 (zd 6 zgJ) :=
  zD (zM Try.prog [41]) (zk _) zn Je N (zcj N) 6 zgJ (l := []) (by kernel_rfl) (by kernel_rfl) an (Zj N) rfl (fun s x hc h => by dsimp only [Zj] at h; exact zH hc h (fun _ _ => rfl) rfl rfl) (fun _ => rfl) (ziS N) (zjU N)
theorem zkF (N : Nat) : ParF (zdo N).t := by
  intro x α β k k' r r' h h1
  revert h
  dsimp only [zdo]
  (repeat' (first | (with_reducible refine zf ?_ ?_) | (with_reducible refine zc ?_ ?_) | split)) <;> intro h <;> first | exact h1 _ h | (cases h; done)
theorem zj3 (N : Nat) : TxOk (tabB Try.prog [41]) (F26a_g N) Je (lam N (zcj N)) Try.f26 (zdo N) := fun x => by kernel_rfl
noncomputable def F26a_e (N : Nat) : Ent Try.prog := zC (zM Try.prog [41]) (zk _) zn 26 Try.f26 Try.func26 rfl Je (lam N (zcj N)) (zq (l := [(6, zd 6 zgJ)]) (al (zhz N) an) (by kernel_rfl)) (zdo N) (fun _ => ⟨rfl, rfl⟩) (zj3 N) (fun _ _ _ h => zB h (fun _ _ => rfl) (fun _ _ => rfl)) (zkF N)
abbrev RK12 : List Ck := [.str, .str, .str, .str, .int .i64, .int .i64, .int .i64, .int .i64, .int .i64, .vs 19 9, .int .i64, .int .i64, .int .i64, .int .i64, .int .i64, .int .i64, .int .i64, .int .i64, .int .i64, .int .i64, .int .i64, .int .i64, .int .i64, .int .i64, .int .i64]
abbrev RT12 : Type := ByteArray × ByteArray × ByteArray × ByteArray × Int × Int × Int × Int × Int × Nat × Int × Int × Int × Int × Int × Int × Int × Int × Int × Int × Int × Int × Int × Int × Int × Unit
def Ren12 (e : RT12) : List AV := enc RK12 e
def jQ : Nat → Keep × Keep := anF [(5, ⟨[0, 1, 6], [], [0], [], [], [(5, 25)], [], [], false⟩, ⟨[], [], [0], [], [], [(5, 25)], [], [], false⟩), (18, ⟨[0, 1, 5, 6, 7, 23, 24], [], [0, 7, 19, 1000005], [], [], [], [], [19, 1000005], false⟩, ⟨[0, 1, 5, 6, 7], [], [0, 7, 19, 1000005], [], [], [], [], [19, 1000005], false⟩)] [(100015, ([], [((7, 9), 9)])), (100016, ([5], []))]
noncomputable def F10_g (N : Nat) : GamK := gam (P := Try.prog) [F9_e N, F26a_e N]
noncomputable def ZF (N : Nat) : LSpec where
  X := Int × Nat × Int × Int × Int × (List (List AV)) × Int × RT12 × (List AV) × (List AV)
  Y := (Int × Nat × Int × (List (List AV)) × Int × RT12 × (List AV) × (List AV))
  p := fun s => rdS 86 1 [(0, .ptr 0 0), (1, .int .i64), (5, .vs0 1000005 25), (6, .int .i64), (7, .ptr 7 0), (23, .int .i64), (24, .int .i64)] [(0, .cells [.lst 1, .int .i64]), (7, .row RK12), (19, .tt), (1000005, .tt)] s fun ⟨_, a0, a1, a2, _, a3, a4, _⟩ ⟨⟨a5, a6, _⟩, a7, a8, a9, _⟩ => (a0, a1, a2, a3, a4, a5, a6, a7, a8, a9)
  st := fun u18 => mkS 86 [(0, (AV.ptr 0 0)), (1, (AV.v (.int .i64 u18.1))), (5, (AV.vs 1000005 0 u18.2.1 25)), (6, (AV.v (.int .i64 u18.2.2.1))), (7, (AV.ptr 7 0)), (23, (AV.v (.int .i64 u18.2.2.2.1))), (24, (AV.v (.int .i64 u18.2.2.2.2.1)))] [(0, [(AV.list 1 u18.2.2.2.2.2.1 none), (AV.v (.int .i64 u18.2.2.2.2.2.2.1))]), (7, (Ren12 u18.2.2.2.2.2.2.2.1)), (19, u18.2.2.2.2.2.2.2.2.1), (1000005, u18.2.2.2.2.2.2.2.2.2)] (jQ 18).1.toks 1
  out := fun y => (.exit 2, mkS 86 [(0, (AV.ptr 0 0)), (1, (AV.v (.int .i64 y.1))), (5, (AV.vs 1000005 0 y.2.1 25)), (6, (AV.v (.int .i64 y.2.2.1))), (7, (AV.ptr 7 0))] [(0, [(AV.list 1 y.2.2.2.1 none), (AV.v (.int .i64 y.2.2.2.2.1))]), (7, (Ren12 y.2.2.2.2.2.1)), (19, y.2.2.2.2.2.2.1), (1000005, y.2.2.2.2.2.2.2)] (jQ 18).2.toks 1)
  sp := fun y α k => k (.exit 2, mkS 86 [(0, (AV.ptr 0 0)), (1, (AV.v (.int .i64 y.1))), (5, (AV.vs 1000005 0 y.2.1 25)), (6, (AV.v (.int .i64 y.2.2.1))), (7, (AV.ptr 7 0))] [(0, [(AV.list 1 y.2.2.2.1 none), (AV.v (.int .i64 y.2.2.2.2.1))]), (7, (Ren12 y.2.2.2.2.2.1)), (19, y.2.2.2.2.2.2.1), (1000005, y.2.2.2.2.2.2.2)] (jQ 18).2.toks 1)
  spe := fun y α k => rfl
  b := fun u18 α kn ke => (match (decide (u18.2.2.2.2.1 < u18.2.2.2.1)) with | true => (if 0 ≤ u18.2.2.2.2.1 ∧ u18.2.2.2.2.1 < (u18.2.2.2.2.2.2.2.1.2.2.2.2.2.2.2.2.2.1 : Int) then (if (((0 + u18.2.2.2.2.1.toNat) * 9) + 4) + 1 ≤ u18.2.2.2.2.2.2.2.2.1.length then (if (((0 + u18.2.2.2.2.1.toNat) * 9) + 5) + 1 ≤ (splice u18.2.2.2.2.2.2.2.2.1 (((0 + u18.2.2.2.2.1.toNat) * 9) + 4) [(AV.v (.int .i64 (i64 ((i64 (1000 + (i64 (400 * u18.2.2.1)))) + u18.2.2.2.2.1))))]).length then (if (((0 + u18.2.2.2.2.1.toNat) * 9) + 6) + 1 ≤ (splice (splice u18.2.2.2.2.2.2.2.2.1 (((0 + u18.2.2.2.2.1.toNat) * 9) + 4) [(AV.v (.int .i64 (i64 ((i64 (1000 + (i64 (400 * u18.2.2.1)))) + u18.2.2.2.2.1))))]) (((0 + u18.2.2.2.2.1.toNat) * 9) + 5) [(AV.v (.int .i64 (i64 ((i64 (1000 + (i64 (400 * u18.2.2.1)))) + u18.2.2.2.2.1))))]).length then (if (((0 + u18.2.2.2.2.1.toNat) * 9) + 7) + 1 ≤ (splice (splice (splice u18.2.2.2.2.2.2.2.2.1 (((0 + u18.2.2.2.2.1.toNat) * 9) + 4) [(AV.v (.int .i64 (i64 ((i64 (1000 + (i64 (400 * u18.2.2.1)))) + u18.2.2.2.2.1))))]) (((0 + u18.2.2.2.2.1.toNat) * 9) + 5) [(AV.v (.int .i64 (i64 ((i64 (1000 + (i64 (400 * u18.2.2.1)))) + u18.2.2.2.2.1))))]) (((0 + u18.2.2.2.2.1.toNat) * 9) + 6) [(AV.v (.int .i64 (i64 ((i64 ((i64 (1000 + (i64 (400 * u18.2.2.1)))) + u18.2.2.2.2.1)) + 2))))]).length then (kn (u18.1, u18.2.1, u18.2.2.1, u18.2.2.2.1, (i64 (u18.2.2.2.2.1 + 1)), u18.2.2.2.2.2.1, u18.2.2.2.2.2.2.1, u18.2.2.2.2.2.2.2.1, ((splice (splice (splice (splice u18.2.2.2.2.2.2.2.2.1 (((0 + u18.2.2.2.2.1.toNat) * 9) + 4) [(AV.v (.int .i64 (i64 ((i64 (1000 + (i64 (400 * u18.2.2.1)))) + u18.2.2.2.2.1))))]) (((0 + u18.2.2.2.2.1.toNat) * 9) + 5) [(AV.v (.int .i64 (i64 ((i64 (1000 + (i64 (400 * u18.2.2.1)))) + u18.2.2.2.2.1))))]) (((0 + u18.2.2.2.2.1.toNat) * 9) + 6) [(AV.v (.int .i64 (i64 ((i64 ((i64 (1000 + (i64 (400 * u18.2.2.1)))) + u18.2.2.2.2.1)) + 2))))]) (((0 + u18.2.2.2.2.1.toNat) * 9) + 7) [(AV.v (.int .i64 7))]).map dat0), (u18.2.2.2.2.2.2.2.2.2.map dat0))) else none) else none) else none) else none) else none) | false => (ke (u18.1, u18.2.1, u18.2.2.1, u18.2.2.2.2.2.1, u18.2.2.2.2.2.2.1, u18.2.2.2.2.2.2.2.1, (u18.2.2.2.2.2.2.2.2.1.map dat0), (u18.2.2.2.2.2.2.2.2.2.map dat0))))
noncomputable abbrev F10_d18 (N : Nat) (x : Int × Nat × Int × Int × Int × (List (List AV)) × Int × RT12 × (List AV) × (List AV)) : Option ((Int × Nat × Int × (List (List AV)) × Int × RT12 × (List AV) × (List AV))) := (ZF N).L N x
noncomputable def ZS (N : Nat) : LSpec where
  X := Nat × Int × Int × (List (List AV)) × Int × (List AV)
  Y := (Nat × (List (List AV)) × Int × (List AV))
  p := fun s => rdS 86 1 [(5, .vs0 1000005 25), (0, .ptr 0 0), (1, .int .i64), (6, .int .i64)] [(0, .cells [.lst 1, .int .i64]), (1000005, .tt)] s fun ⟨a0, _, a1, a2, _⟩ ⟨⟨a3, a4, _⟩, a5, _⟩ => (a0, a1, a2, a3, a4, a5)
  st := fun u5 => mkS 86 [(5, (AV.vs 1000005 0 u5.1 25)), (0, (AV.ptr 0 0)), (1, (AV.v (.int .i64 u5.2.1))), (6, (AV.v (.int .i64 u5.2.2.1)))] [(0, [(AV.list 1 u5.2.2.2.1 none), (AV.v (.int .i64 u5.2.2.2.2.1))]), (1000005, u5.2.2.2.2.2)] (jQ 5).1.toks 1
  out := fun y => (.exit 0, mkS 86 [(5, (AV.vs 1000005 0 y.1 25))] [(0, [(AV.list 1 y.2.1 none), (AV.v (.int .i64 y.2.2.1))]), (1000005, y.2.2.2)] (jQ 5).2.toks 1)
  sp := fun y α k => k (.exit 0, mkS 86 [(5, (AV.vs 1000005 0 y.1 25))] [(0, [(AV.list 1 y.2.1 none), (AV.v (.int .i64 y.2.2.1))]), (1000005, y.2.2.2)] (jQ 5).2.toks 1)
  spe := fun y α k => rfl
  b := fun u5 α kn ke => (match (decide (u5.2.2.1 < u5.2.1)) with | true => (match F9_d N (3, u5.2.2.2.1, u5.2.2.2.2.1) with | some y6 => (match (y6.1 == 0) with | true => (kn (u5.1, u5.2.1, (i64 (u5.2.2.1 + 1)), y6.2.1, y6.2.2, (u5.2.2.2.2.2.map dat0))) | false => (match zjQ N (1, y6.2) with | some y7 => (match F10_d18 N (u5.2.1, u5.1, u5.2.2.1, ((y7.1.2.2.2.2.2.2.2.2.2.1 : Nat) : Int), 0, y7.2.1, y7.2.2.1, y7.1, ((y7.2.2.2.map dat0).map dat0), (u5.2.2.2.2.2.map dat0)) with | some y8 => (match F9_d N (2, y8.2.2.2.1, y8.2.2.2.2.1) with | some y9 => (if 0 ≤ (if (i64 (((y8.2.2.2.2.2.1.2.2.2.2.2.2.2.2.2.1 : Nat) : Int) - 1)) < y9.1 then (i64 (((y8.2.2.2.2.2.1.2.2.2.2.2.2.2.2.2.1 : Nat) : Int) - 1)) else y9.1) ∧ (if (i64 (((y8.2.2.2.2.2.1.2.2.2.2.2.2.2.2.2.1 : Nat) : Int) - 1)) < y9.1 then (i64 (((y8.2.2.2.2.2.1.2.2.2.2.2.2.2.2.2.1 : Nat) : Int) - 1)) else y9.1) ≤ (y8.2.2.2.2.2.1.2.2.2.2.2.2.2.2.2.1 : Int) then (if 0 ≤ (0 : Int) ∧ (0 : Int) < (((y8.2.2.2.2.2.1.2.2.2.2.2.2.2.2.2.1 - (if (i64 (((y8.2.2.2.2.2.1.2.2.2.2.2.2.2.2.2.1 : Nat) : Int) - 1)) < y9.1 then (i64 (((y8.2.2.2.2.2.1.2.2.2.2.2.2.2.2.2.1 : Nat) : Int) - 1)) else y9.1).toNat) : Nat) : Int) then (match Rrd1 (y8.2.2.2.2.2.2.1.drop (((0 + (if (i64 (((y8.2.2.2.2.2.1.2.2.2.2.2.2.2.2.2.1 : Nat) : Int) - 1)) < y9.1 then (i64 (((y8.2.2.2.2.2.1.2.2.2.2.2.2.2.2.2.1 : Nat) : Int) - 1)) else y9.1).toNat) + (0 : Int).toNat) * 9)) with | some e10 => (if (y8.2.2.2.2.2.1.2.2.2.2.2.2.2.2.2.1 - (if (i64 (((y8.2.2.2.2.2.1.2.2.2.2.2.2.2.2.2.1 : Nat) : Int) - 1)) < y9.1 then (i64 (((y8.2.2.2.2.2.1.2.2.2.2.2.2.2.2.2.1 : Nat) : Int) - 1)) else y9.1).toNat) * 9 ≤ (zay (0 + (if (i64 (((y8.2.2.2.2.2.1.2.2.2.2.2.2.2.2.2.1 : Nat) : Int) - 1)) < y9.1 then (i64 (((y8.2.2.2.2.2.1.2.2.2.2.2.2.2.2.2.1 : Nat) : Int) - 1)) else y9.1).toNat) 9 y8.2.2.2.2.2.2.1).length then (if y8.2.1 * 25 ≤ y8.2.2.2.2.2.2.2.length ∧ (y8.2.1 + [(Ren0 (e10.1, e10.2.1, e10.2.2.1, e10.2.2.2.1, e10.2.2.2.2.1, e10.2.2.2.2.2.1, e10.2.2.2.2.2.2.1, e10.2.2.2.2.2.2.2.1, e10.2.2.2.2.2.2.2.2.1, (zO ((zay (0 + (if (i64 (((y8.2.2.2.2.2.1.2.2.2.2.2.2.2.2.2.1 : Nat) : Int) - 1)) < y9.1 then (i64 (((y8.2.2.2.2.2.1.2.2.2.2.2.2.2.2.2.1 : Nat) : Int) - 1)) else y9.1).toNat) 9 y8.2.2.2.2.2.2.1).take ((y8.2.2.2.2.2.1.2.2.2.2.2.2.2.2.2.1 - (if (i64 (((y8.2.2.2.2.2.1.2.2.2.2.2.2.2.2.2.1 : Nat) : Int) - 1)) < y9.1 then (i64 (((y8.2.2.2.2.2.1.2.2.2.2.2.2.2.2.2.1 : Nat) : Int) - 1)) else y9.1).toNat) * 9)) 9 (y8.2.2.2.2.2.1.2.2.2.2.2.2.2.2.2.1 - (if (i64 (((y8.2.2.2.2.2.1.2.2.2.2.2.2.2.2.2.1 : Nat) : Int) - 1)) < y9.1 then (i64 (((y8.2.2.2.2.2.1.2.2.2.2.2.2.2.2.2.1 : Nat) : Int) - 1)) else y9.1).toNat)), y8.2.2.2.2.2.1.2.2.2.2.2.2.2.2.2.2))].length) * 248 ≤ zl then (kn ((y8.2.1 + [(Ren0 (e10.1, e10.2.1, e10.2.2.1, e10.2.2.2.1, e10.2.2.2.2.1, e10.2.2.2.2.2.1, e10.2.2.2.2.2.2.1, e10.2.2.2.2.2.2.2.1, e10.2.2.2.2.2.2.2.2.1, (zO ((zay (0 + (if (i64 (((y8.2.2.2.2.2.1.2.2.2.2.2.2.2.2.2.1 : Nat) : Int) - 1)) < y9.1 then (i64 (((y8.2.2.2.2.2.1.2.2.2.2.2.2.2.2.2.1 : Nat) : Int) - 1)) else y9.1).toNat) 9 y8.2.2.2.2.2.2.1).take ((y8.2.2.2.2.2.1.2.2.2.2.2.2.2.2.2.1 - (if (i64 (((y8.2.2.2.2.2.1.2.2.2.2.2.2.2.2.2.1 : Nat) : Int) - 1)) < y9.1 then (i64 (((y8.2.2.2.2.2.1.2.2.2.2.2.2.2.2.2.1 : Nat) : Int) - 1)) else y9.1).toNat) * 9)) 9 (y8.2.2.2.2.2.1.2.2.2.2.2.2.2.2.2.1 - (if (i64 (((y8.2.2.2.2.2.1.2.2.2.2.2.2.2.2.2.1 : Nat) : Int) - 1)) < y9.1 then (i64 (((y8.2.2.2.2.2.1.2.2.2.2.2.2.2.2.2.1 : Nat) : Int) - 1)) else y9.1).toNat)), y8.2.2.2.2.2.1.2.2.2.2.2.2.2.2.2.2))].length), y8.1, (i64 (y8.2.2.1 + 1)), y9.2.1, y9.2.2, ((y8.2.2.2.2.2.2.2.take (y8.2.1 * 25) ++ [(Ren0 (e10.1, e10.2.1, e10.2.2.1, e10.2.2.2.1, e10.2.2.2.2.1, e10.2.2.2.2.2.1, e10.2.2.2.2.2.2.1, e10.2.2.2.2.2.2.2.1, e10.2.2.2.2.2.2.2.2.1, (zO ((zay (0 + (if (i64 (((y8.2.2.2.2.2.1.2.2.2.2.2.2.2.2.2.1 : Nat) : Int) - 1)) < y9.1 then (i64 (((y8.2.2.2.2.2.1.2.2.2.2.2.2.2.2.2.1 : Nat) : Int) - 1)) else y9.1).toNat) 9 y8.2.2.2.2.2.2.1).take ((y8.2.2.2.2.2.1.2.2.2.2.2.2.2.2.2.1 - (if (i64 (((y8.2.2.2.2.2.1.2.2.2.2.2.2.2.2.2.1 : Nat) : Int) - 1)) < y9.1 then (i64 (((y8.2.2.2.2.2.1.2.2.2.2.2.2.2.2.2.1 : Nat) : Int) - 1)) else y9.1).toNat) * 9)) 9 (y8.2.2.2.2.2.1.2.2.2.2.2.2.2.2.2.1 - (if (i64 (((y8.2.2.2.2.2.1.2.2.2.2.2.2.2.2.2.1 : Nat) : Int) - 1)) < y9.1 then (i64 (((y8.2.2.2.2.2.1.2.2.2.2.2.2.2.2.2.1 : Nat) : Int) - 1)) else y9.1).toNat)), y8.2.2.2.2.2.1.2.2.2.2.2.2.2.2.2.2))].flatten).map dat0))) else none) else none) | none => none) else none) else none) | none => none) | none => none) | none => none)) | none => none) | false => (ke (u5.1, u5.2.2.2.1, u5.2.2.2.2.1, (u5.2.2.2.2.2.map dat0))))
noncomputable abbrev F10_d5 (N : Nat) (x : Nat × Int × Int × (List (List AV)) × Int × (List AV)) : Option ((Nat × (List (List AV)) × Int × (List AV))) := (ZS N).L N x
noncomputable def zih (N : Nat) : FSpec where
  X := Int × (List (List AV)) × Int
  Y := (List (List AV)) × (List (List AV)) × Int
  ash := [[none], [none]]
  bsh := [[some 1, none]]
  S := ⟨[[some 2000025]], [[some 1, none]], [], [], []⟩
  bm := false
  pat := fun a b => rdA [.ptr 0 0, .int .i64] [.cells [.lst 1, .int .i64]] a b fun ⟨_, a0, _⟩ ⟨⟨a1, a2, _⟩, _⟩ => (a0, a1, a2)
  args := fun x => [(AV.ptr 0 0), (AV.v (.int .i64 x.1))]
  bs := fun x => [[(AV.list 1 x.2.1 none), (AV.v (.int .i64 x.2.2))]]
  ret := fun y => ⟨(AV.list 25 y.1 (some 2560000000)), [[(AV.list 1 y.2.1 none), (AV.v (.int .i64 y.2.2))]], none, [], [2560000000], []⟩
  t := fun x α k => (match F10_d5 N (0, x.1, 0, x.2.1, x.2.2, ([] : List AV)) with | some y11 => (if y11.1 * 25 ≤ y11.2.2.2.length then (k ((zO (y11.2.2.2.take (y11.1 * 25)) 25 y11.1), y11.2.1, y11.2.2.1)) else none) | none => none)
noncomputable abbrev zi7 (N : Nat) (x : Int × (List (List AV)) × Int) : Option ((List (List AV)) × (List (List AV)) × Int) := (zih N).d x
noncomputable def zaO (N : Nat) : List (Nat × LSpec) := [(5, ZS N), (18, ZF N)]
noncomputable def zek : Code := Try.f10.body.getD .skip
theorem zlI (N : Nat) : Par (ZF N).b := by
  intro x α β kn ke kn' ke' r r' h h1 h2
  revert h
  dsimp only [ZF]
  (repeat' (first | (with_reducible refine zf ?_ ?_) | (with_reducible refine zc ?_ ?_) | split)) <;> intro h <;> first | exact h1 _ h | exact h2 _ h | (cases h; done)
theorem zin (N : Nat) : BdOk (tabB Try.prog [19, 84]) (F10_g N) jQ N (zaO N) 18 zek (ZF N) := fun x α kn ke => by kernel_rfl
theorem zdd (N : Nat) : LpOk Try.prog jQ N (zaO N) 18 (zd 18 zek) :=
  zD (zM Try.prog [19, 84]) (zk _) zn jQ N (zaO N) 18 zek (l := []) (by kernel_rfl) (by kernel_rfl) an (ZF N) rfl (fun s x hc h => by dsimp only [ZF] at h; exact zH hc h (fun _ _ => rfl) rfl rfl) (fun _ => rfl) (zin N) (zlI N)
theorem F10_par5 (N : Nat) : Par (ZS N).b := by
  intro x α β kn ke kn' ke' r r' h h1 h2
  revert h
  dsimp only [ZS]
  (repeat' (first | (with_reducible refine zf ?_ ?_) | (with_reducible refine zc ?_ ?_) | split)) <;> intro h <;> first | exact h1 _ h | exact h2 _ h | (cases h; done)
theorem zjz (N : Nat) : BdOk (tabB Try.prog [19, 84]) (F10_g N) jQ N (zaO N) 5 zek (ZS N) := fun x α kn ke => by kernel_rfl
theorem zmA (N : Nat) : LpOk Try.prog jQ N (zaO N) 5 (zd 5 zek) :=
  zD (zM Try.prog [19, 84]) (zk _) zn jQ N (zaO N) 5 zek (l := [(18, zd 18 zek)]) (by kernel_rfl) (by kernel_rfl) (al (zdd N) an) (ZS N) rfl (fun s x hc h => by dsimp only [ZS] at h; exact zH hc h (fun _ _ => rfl) rfl rfl) (fun _ => rfl) (zjz N) (F10_par5 N)
theorem F10_parF (N : Nat) : ParF (zih N).t := by
  intro x α β k k' r r' h h1
  revert h
  dsimp only [zih]
  (repeat' (first | (with_reducible refine zf ?_ ?_) | (with_reducible refine zc ?_ ?_) | split)) <;> intro h <;> first | exact h1 _ h | (cases h; done)
theorem F10_text (N : Nat) : TxOk (tabB Try.prog [19, 84]) (F10_g N) jQ (lam N (zaO N)) Try.f10 (zih N) := fun x => by kernel_rfl
noncomputable def F10_e (N : Nat) : Ent Try.prog := zC (zM Try.prog [19, 84]) (zk _) zn 10 Try.f10 Try.func10 rfl jQ (lam N (zaO N)) (zq (l := [(5, zd 5 zek), (18, zd 18 zek)]) (al (zmA N) (al (zdd N) an)) (by kernel_rfl)) (zih N) (fun _ => ⟨rfl, rfl⟩) (F10_text N) (fun _ _ _ h => zB h (fun _ _ => rfl) (fun _ _ => rfl)) (F10_parF N)
def zaJ : Nat → Keep × Keep := anL [(6, ⟨[0, 2, 4, 10, 11, 12], [], [0, 4], [(9, 38)], [], [], [], [], false⟩, ⟨[10, 11], [], [0], [(9, 38)], [], [], [], [], false⟩)]
noncomputable def F16_g (N : Nat) : GamK := gam (P := Try.prog) [F9_e N, F10_e N, F37_e N]
noncomputable def ju (N : Nat) : LSpec where
  X := (List (List AV)) × Int × Int × Int × Int × (List (List AV)) × Int × (List (List AV)) × Int × Int
  Y := ((List (List AV)) × Int × Int × (List (List AV)) × Int)
  p := fun s => rdS 48 1 [(9, .lst 38), (0, .ptr 0 0), (2, .int .i64), (4, .ptr 4 0), (10, .int .i64), (11, .int .i64), (12, .int .i64)] [(0, .cells [.lst 1, .int .i64]), (4, .cells [.lst 4, .int .i64, .int .i64])] s fun ⟨a0, _, a1, _, a2, a3, a4, _⟩ ⟨⟨a5, a6, _⟩, ⟨a7, a8, a9, _⟩, _⟩ => (a0, a1, a2, a3, a4, a5, a6, a7, a8, a9)
  st := fun u6 => mkS 48 [(9, (AV.list 38 u6.1 none)), (0, (AV.ptr 0 0)), (2, (AV.v (.int .i64 u6.2.1))), (4, (AV.ptr 4 0)), (10, (AV.v (.int .i64 u6.2.2.1))), (11, (AV.v (.int .i64 u6.2.2.2.1))), (12, (AV.v (.int .i64 u6.2.2.2.2.1)))] [(0, [(AV.list 1 u6.2.2.2.2.2.1 none), (AV.v (.int .i64 u6.2.2.2.2.2.2.1))]), (4, [(AV.list 4 u6.2.2.2.2.2.2.2.1 none), (AV.v (.int .i64 u6.2.2.2.2.2.2.2.2.1)), (AV.v (.int .i64 u6.2.2.2.2.2.2.2.2.2))])] (zaJ 6).1.toks 1
  out := fun y => (.exit 0, mkS 48 [(9, (AV.list 38 y.1 none)), (10, (AV.v (.int .i64 y.2.1))), (11, (AV.v (.int .i64 y.2.2.1)))] [(0, [(AV.list 1 y.2.2.2.1 none), (AV.v (.int .i64 y.2.2.2.2))])] (zaJ 6).2.toks 1)
  sp := fun y α k => k (.exit 0, mkS 48 [(9, (AV.list 38 y.1 none)), (10, (AV.v (.int .i64 y.2.1))), (11, (AV.v (.int .i64 y.2.2.1)))] [(0, [(AV.list 1 y.2.2.2.1 none), (AV.v (.int .i64 y.2.2.2.2))])] (zaJ 6).2.toks 1)
  spe := fun y α k => rfl
  b := fun u6 α kn ke => (match (decide (u6.2.2.2.2.1 < u6.2.1)) with | true => (match F9_d N (400, u6.2.2.2.2.2.1, u6.2.2.2.2.2.2.1) with | some y5 => (match zi7 N (4, y5.2) with | some y6 => (match F37_d N (u6.2.2.2.2.2.2.2.1, u6.2.2.2.2.2.2.2.2.1, u6.2.2.2.2.2.2.2.2.2, u6.1, u6.2.2.1, y6.1, (i64 (u6.2.2.2.1 + y5.1))) with | some y7 => (match (y7.2.2 == 0) with | true => (kn (y7.1, u6.2.1, (i64 (u6.2.2.1 + (y7.2.1.length : Int))), (i64 (u6.2.2.2.1 + y5.1)), (i64 (u6.2.2.2.2.1 + 1)), y6.2.1, y6.2.2, u6.2.2.2.2.2.2.2)) | false => (kn (u6.1, u6.2.1, u6.2.2.1, (i64 (u6.2.2.2.1 + y5.1)), (i64 (u6.2.2.2.2.1 + 1)), y6.2.1, y6.2.2, u6.2.2.2.2.2.2.2))) | none => none) | none => none) | none => none) | false => (ke (u6.1, u6.2.2.1, u6.2.2.2.1, u6.2.2.2.2.2.1, u6.2.2.2.2.2.2.1)))
noncomputable abbrev F16_d6 (N : Nat) (x : (List (List AV)) × Int × Int × Int × Int × (List (List AV)) × Int × (List (List AV)) × Int × Int) : Option (((List (List AV)) × Int × Int × (List (List AV)) × Int)) := (ju N).L N x
noncomputable def zcQ (N : Nat) : FSpec where
  X := (List (List AV)) × Int × Int × Int × (List (List AV)) × Int
  Y := (List (List AV)) × Int × Int × (List (List AV)) × Int
  ash := [[none], [some 4, none, none], [none]]
  bsh := [[some 1, none]]
  S := ⟨[[some 38], [none], [none]], [[some 1, none]], [], [], []⟩
  bm := false
  pat := fun a b => zj a fun v1 c2 => pPtr 0 0 v1 <| zj c2 fun v3 c4 => Z2 v3 fun c5 => zj c5 fun c6 c7 => pLst 4 c6 fun a0 => zj c7 fun c8 c9 => pInt .i64 c8 fun a1 => zj c9 fun c10 c11 => pInt .i64 c10 fun a2 => pEnd c11 <| zj c4 fun v12 c13 => pInt .i64 v12 fun a3 => pEnd c13 <| zj b fun v14 c15 => zj v14 fun c16 c17 => pLst 1 c16 fun a4 => zj c17 fun c18 c19 => pInt .i64 c18 fun a5 => pEnd c19 <| pEnd c15 <| some (a0, a1, a2, a3, a4, a5)
  args := fun x => [(AV.ptr 0 0), (AV.agg [(AV.list 4 x.1 none), (AV.v (.int .i64 x.2.1)), (AV.v (.int .i64 x.2.2.1))]), (AV.v (.int .i64 x.2.2.2.1))]
  bs := fun x => [[(AV.list 1 x.2.2.2.2.1 none), (AV.v (.int .i64 x.2.2.2.2.2))]]
  ret := fun y => ⟨(AV.tup [(AV.list 38 y.1 none), (AV.v (.int .i64 y.2.1)), (AV.v (.int .i64 y.2.2.1))]), [[(AV.list 1 y.2.2.2.1 none), (AV.v (.int .i64 y.2.2.2.2))]], none, [], [], []⟩
  t := fun x α k => (match F9_d N (5, x.2.2.2.2) with | some y1 => (match F16_d6 N (([] : List (List AV)), x.2.2.2.1, y1.1, 1000, 0, y1.2.1, y1.2.2, x.1, x.2.1, x.2.2.1) with | some y8 => (k y8) | none => none) | none => none)
noncomputable abbrev F16_d (N : Nat) (x : (List (List AV)) × Int × Int × Int × (List (List AV)) × Int) : Option ((List (List AV)) × Int × Int × (List (List AV)) × Int) := (zcQ N).d x
noncomputable def zeL (N : Nat) : List (Nat × LSpec) := [(6, ju N)]
noncomputable def F16_c : Code := Try.f16.body.getD .skip
theorem F16_par6 (N : Nat) : Par (ju N).b := by
  intro x α β kn ke kn' ke' r r' h h1 h2
  revert h
  dsimp only [ju]
  (repeat' (first | (with_reducible refine zf ?_ ?_) | (with_reducible refine zc ?_ ?_) | split)) <;> intro h <;> first | exact h1 _ h | exact h2 _ h | (cases h; done)
theorem zlN (N : Nat) : BdOk (zt Try.prog) (F16_g N) zaJ N (zeL N) 6 F16_c (ju N) := fun x α kn ke => by kernel_rfl
theorem zkY (N : Nat) : LpOk Try.prog zaJ N (zeL N) 6 (zd 6 F16_c) :=
  zD (ze Try.prog) (zk _) zn zaJ N (zeL N) 6 F16_c (l := []) (by kernel_rfl) (by kernel_rfl) an (ju N) rfl (fun s x hc h => by dsimp only [ju] at h; exact zH hc h (fun _ _ => rfl) rfl rfl) (fun _ => rfl) (zlN N) (F16_par6 N)
theorem F16_parF (N : Nat) : ParF (zcQ N).t := by
  intro x α β k k' r r' h h1
  revert h
  dsimp only [zcQ]
  (repeat' (first | (with_reducible refine zf ?_ ?_) | (with_reducible refine zc ?_ ?_) | split)) <;> intro h <;> first | exact h1 _ h | (cases h; done)
theorem F16_text (N : Nat) : TxOk (zt Try.prog) (F16_g N) zaJ (lam N (zeL N)) Try.f16 (zcQ N) := fun x => by kernel_rfl
theorem F16_pat (N : Nat) (a : List AV) (b : List (List AV)) (x : (zcQ N).X) (h : (zcQ N).pat a b = some x) : a = (zcQ N).args x ∧ b = (zcQ N).bs x := by
  obtain ⟨v1, c2, rfl, g0⟩ := zb (show zj _ _ = some x from h)
  obtain ⟨rfl, g1⟩ := zo g0; clear g0
  obtain ⟨v3, c4, rfl, g2⟩ := zb g1; clear g1
  obtain ⟨c5, rfl, g3⟩ := zJ g2; clear g2
  obtain ⟨c6, c7, rfl, g4⟩ := zb g3; clear g3
  obtain ⟨a0, rfl, g5⟩ := zy g4; clear g4
  obtain ⟨c8, c9, rfl, g6⟩ := zb g5; clear g5
  obtain ⟨a1, rfl, g7⟩ := zi g6; clear g6
  obtain ⟨c10, c11, rfl, g8⟩ := zb g7; clear g7
  obtain ⟨a2, rfl, g9⟩ := zi g8; clear g8
  obtain ⟨rfl, g10⟩ := zg g9; clear g9
  obtain ⟨v12, c13, rfl, g11⟩ := zb g10; clear g10
  obtain ⟨a3, rfl, g12⟩ := zi g11; clear g11
  obtain ⟨rfl, g13⟩ := zg g12; clear g12
  obtain ⟨v14, c15, rfl, g14⟩ := zb g13; clear g13
  obtain ⟨c16, c17, rfl, g15⟩ := zb g14; clear g14
  obtain ⟨a4, rfl, g16⟩ := zy g15; clear g15
  obtain ⟨c18, c19, rfl, g17⟩ := zb g16; clear g16
  obtain ⟨a5, rfl, g18⟩ := zi g17; clear g17
  obtain ⟨rfl, g19⟩ := zg g18; clear g18
  obtain ⟨rfl, g20⟩ := zg g19; clear g19
  clear h
  cases g20
  exact ⟨rfl, rfl⟩
noncomputable def F16_e (N : Nat) : Ent Try.prog := zC (ze Try.prog) (zk _) zn 16 Try.f16 Try.func16 rfl zaJ (lam N (zeL N)) (zq (l := [(6, zd 6 F16_c)]) (al (zkY N) an) (by kernel_rfl)) (zcQ N) (fun _ => ⟨rfl, rfl⟩) (F16_text N) (F16_pat N) (F16_parF N)
abbrev RK13 : List Ck := [.sl 9, .int .i64, .int .i64, .int .i64, .int .i64, .int .i64, .int .i64, .int .i64, .int .i64, .int .i64, .int .i64, .int .i64, .int .i64, .int .i64, .int .i64, .int .i64]
abbrev RT13 : Type := (List (List AV)) × Int × Int × Int × Int × Int × Int × Int × Int × Int × Int × Int × Int × Int × Int × Int × Unit
def Ren13 (e : RT13) : List AV := enc RK13 e
def F41_an : Nat → Keep × Keep := anL []
noncomputable def F41_g (N : Nat) : GamK := gam (P := Try.prog) [F64_e N]
noncomputable def zhx (N : Nat) : FSpec where
  X := RT13 × RT13
  Y := Bool
  ash := [[some 9, none, none, none, none, none, none, none, none, none, none, none, none, none, none, none], [some 9, none, none, none, none, none, none, none, none, none, none, none, none, none, none, none]]
  bsh := []
  S := ⟨[[none]], [], [], [], []⟩
  bm := false
  pat := fun a b => rdA [.agg RK13, .agg RK13] [] a b fun ⟨a0, a1, _⟩ _ => (a0, a1)
  args := fun x => [(AV.agg (Ren13 x.1)), (AV.agg (Ren13 x.2))]
  bs := fun x => []
  ret := fun y => ⟨(AV.v (.bool y)), [], none, [], [], []⟩
  t := fun x α k => (match zkc N (x.1.1, x.2.1) with | some y1 => (match y1 with | true => (match (((x.1.2.1 == x.2.2.1) && ((x.1.2.2.1 == x.2.2.2.1) && ((x.1.2.2.2.1 == x.2.2.2.2.1) && true))) && ((x.1.2.2.2.2.1 == x.2.2.2.2.2.1) && ((x.1.2.2.2.2.2.1 == x.2.2.2.2.2.2.1) && ((x.1.2.2.2.2.2.2.1 == x.2.2.2.2.2.2.2.1) && ((((x.1.2.2.2.2.2.2.2.1 == x.2.2.2.2.2.2.2.2.1) && ((x.1.2.2.2.2.2.2.2.2.1 == x.2.2.2.2.2.2.2.2.2.1) && ((x.1.2.2.2.2.2.2.2.2.2.1 == x.2.2.2.2.2.2.2.2.2.2.1) && true))) && (((x.1.2.2.2.2.2.2.2.2.2.2.1 == x.2.2.2.2.2.2.2.2.2.2.2.1) && ((x.1.2.2.2.2.2.2.2.2.2.2.2.1 == x.2.2.2.2.2.2.2.2.2.2.2.2.1) && ((x.1.2.2.2.2.2.2.2.2.2.2.2.2.1 == x.2.2.2.2.2.2.2.2.2.2.2.2.2.1) && true))) && true)) && true))))) with | true => (match ((x.1.2.2.2.2.2.2.2.2.2.2.2.2.2.1 == x.2.2.2.2.2.2.2.2.2.2.2.2.2.2.1) && ((x.1.2.2.2.2.2.2.2.2.2.2.2.2.2.2.1 == x.2.2.2.2.2.2.2.2.2.2.2.2.2.2.2.1) && true)) with | true => (k (x.1.2.2.2.2.2.2.2.2.2.2.2.2.2.2.2.1 == x.2.2.2.2.2.2.2.2.2.2.2.2.2.2.2.2.1)) | false => (k false)) | false => (k false)) | false => (k false)) | none => none)
noncomputable abbrev F41_d (N : Nat) (x : RT13 × RT13) : Option (Bool) := (zhx N).d x
theorem F41_parF (N : Nat) : ParF (zhx N).t := by
  intro x α β k k' r r' h h1
  revert h
  dsimp only [zhx]
  (repeat' (first | (with_reducible refine zf ?_ ?_) | (with_reducible refine zc ?_ ?_) | split)) <;> intro h <;> first | exact h1 _ h | (cases h; done)
theorem F41_text (N : Nat) : TxOk (zt Try.prog) (F41_g N) F41_an (lam N []) Try.f41 (zhx N) := fun x => by kernel_rfl
noncomputable def F41_e (N : Nat) : Ent Try.prog := zC (ze Try.prog) (zk _) zn 41 Try.f41 Try.func41 rfl F41_an (lam N []) (zq (l := []) an (by kernel_rfl)) (zhx N) (fun _ => ⟨rfl, rfl⟩) (F41_text N) (fun _ _ _ h => zB h (fun _ _ => rfl) (fun _ _ => rfl)) (F41_parF N)
@[reducible] def zgX (e : RT0) : RT13 := (e.2.2.2.2.2.2.2.2.2.1, e.2.2.2.2.2.2.2.2.2.2.1, e.2.2.2.2.2.2.2.2.2.2.2.1, e.2.2.2.2.2.2.2.2.2.2.2.2.1, e.2.2.2.2.2.2.2.2.2.2.2.2.2.1, e.2.2.2.2.2.2.2.2.2.2.2.2.2.2.1, e.2.2.2.2.2.2.2.2.2.2.2.2.2.2.2.1, e.2.2.2.2.2.2.2.2.2.2.2.2.2.2.2.2.1, e.2.2.2.2.2.2.2.2.2.2.2.2.2.2.2.2.2.1, e.2.2.2.2.2.2.2.2.2.2.2.2.2.2.2.2.2.2.1, e.2.2.2.2.2.2.2.2.2.2.2.2.2.2.2.2.2.2.2.1, e.2.2.2.2.2.2.2.2.2.2.2.2.2.2.2.2.2.2.2.2.1, e.2.2.2.2.2.2.2.2.2.2.2.2.2.2.2.2.2.2.2.2.2.1, e.2.2.2.2.2.2.2.2.2.2.2.2.2.2.2.2.2.2.2.2.2.2.1, e.2.2.2.2.2.2.2.2.2.2.2.2.2.2.2.2.2.2.2.2.2.2.2.1, e.2.2.2.2.2.2.2.2.2.2.2.2.2.2.2.2.2.2.2.2.2.2.2.2.1, ())
def F22_an : Nat → Keep × Keep := anL []
noncomputable def F22_g (N : Nat) : GamK := gam (P := Try.prog) [F41_e N]
noncomputable def ziV (N : Nat) : FSpec where
  X := RT0 × RT0
  Y := Bool
  ash := [[none, none, none, none, none, none, none, none, none, some 9, none, none, none, none, none, none, none, none, none, none, none, none, none, none, none], [none, none, none, none, none, none, none, none, none, some 9, none, none, none, none, none, none, none, none, none, none, none, none, none, none, none]]
  bsh := []
  S := ⟨[[none]], [], [], [], []⟩
  bm := false
  pat := fun a b => rdA [.agg RK0, .agg RK0] [] a b fun ⟨a0, a1, _⟩ _ => (a0, a1)
  args := fun x => [(AV.agg (Ren0 x.1)), (AV.agg (Ren0 x.2))]
  bs := fun x => []
  ret := fun y => ⟨(AV.v (.bool y)), [], none, [], [], []⟩
  t := fun x α k => (match (((x.1.1 == x.2.1) && ((x.1.2.1 == x.2.2.1) && ((x.1.2.2.1 == x.2.2.2.1) && ((x.1.2.2.2.1 == x.2.2.2.2.1) && true)))) && ((x.1.2.2.2.2.1 == x.2.2.2.2.2.1) && ((x.1.2.2.2.2.2.1 == x.2.2.2.2.2.2.1) && ((x.1.2.2.2.2.2.2.1 == x.2.2.2.2.2.2.2.1) && ((x.1.2.2.2.2.2.2.2.1 == x.2.2.2.2.2.2.2.2.1) && ((x.1.2.2.2.2.2.2.2.2.1 == x.2.2.2.2.2.2.2.2.2.1) && true)))))) with | true => (match F41_d N ((zgX x.1), (zgX x.2)) with | some y1 => (k y1) | none => none) | false => (k false))
noncomputable abbrev F22_d (N : Nat) (x : RT0 × RT0) : Option (Bool) := (ziV N).d x
theorem F22_parF (N : Nat) : ParF (ziV N).t := by
  intro x α β k k' r r' h h1
  revert h
  dsimp only [ziV]
  (repeat' (first | (with_reducible refine zf ?_ ?_) | (with_reducible refine zc ?_ ?_) | split)) <;> intro h <;> first | exact h1 _ h | (cases h; done)
theorem F22_text (N : Nat) : TxOk (zt Try.prog) (F22_g N) F22_an (lam N []) Try.f22 (ziV N) := fun x => by kernel_rfl
noncomputable def F22_e (N : Nat) : Ent Try.prog := zC (ze Try.prog) (zk _) zn 22 Try.f22 Try.func22 rfl F22_an (lam N []) (zq (l := []) an (by kernel_rfl)) (ziV N) (fun _ => ⟨rfl, rfl⟩) (F22_text N) (fun _ _ _ h => zB h (fun _ _ => rfl) (fun _ _ => rfl)) (F22_parF N)
def JQ : Nat → Keep × Keep := anL [(8, ⟨[5], [], [], [(0, 38), (1, 38)], [], [], [], [], false⟩, ⟨[4], [], [], [], [], [], [], [], false⟩)]
noncomputable def F17_g (N : Nat) : GamK := gam (P := Try.prog) [F22_e N]
noncomputable def jt (N : Nat) : LSpec where
  X := (List (List AV)) × (List (List AV)) × Int
  Y := (Bool) ⊕ (Unit)
  p := fun s => rdS 94 0 [(0, .lst 38), (1, .lst 38), (5, .int .i64)] [] s fun ⟨a0, a1, a2, _⟩ _ => (a0, a1, a2)
  st := fun u8 => mkS 94 [(0, (AV.list 38 u8.1 none)), (1, (AV.list 38 u8.2.1 none)), (5, (AV.v (.int .i64 u8.2.2)))] [] (JQ 8).1.toks 0
  out := fun y => match y with
    | .inl y => (.ret, mkS 94 [(4, (AV.v (.bool y)))] [] (JQ 8).2.toks 0)
    | .inr y => (.exit 0, mkS 94 [] [] (JQ 8).2.toks 0)
  sp := fun y α k => match y with
    | .inl y => k (.ret, mkS 94 [(4, (AV.v (.bool y)))] [] (JQ 8).2.toks 0)
    | .inr y => k (.exit 0, mkS 94 [] [] (JQ 8).2.toks 0)
  spe := fun y α k => by rcases y with _ | _ <;> rfl
  b := fun u8 α kn ke => (match (decide (u8.2.2 < (u8.1.length : Int))) with | true => (if 0 ≤ u8.2.2 then (match u8.1[u8.2.2.toNat]? with | some c1 => (match (c1.drop 0)[0]? with | some x2 => (match x2 with | .v (.int q4 n3) => (if q4 = .i64 then (if 0 ≤ u8.2.2 then (match u8.2.1[u8.2.2.toNat]? with | some c5 => (match (c5.drop 0)[0]? with | some x6 => (match x6 with | .v (.int q8 n7) => (if q8 = .i64 then (match (n3 != n7) with | true => (ke (.inl false)) | false => (if 0 ≤ u8.2.2 then (match u8.1[u8.2.2.toNat]? with | some c9 => (match (c9.drop 1)[0]? with | some x10 => (match x10 with | .v (.bool b11) => (if 0 ≤ u8.2.2 then (match u8.2.1[u8.2.2.toNat]? with | some c12 => (match (c12.drop 1)[0]? with | some x13 => (match x13 with | .v (.bool b14) => (match (!(b11 == b14)) with | true => (ke (.inl false)) | false => (if 0 ≤ u8.2.2 then (match u8.1[u8.2.2.toNat]? with | some c15 => (match Rrd1 (c15.drop 2) with | some e16 => (if 0 ≤ u8.2.2 then (match u8.2.1[u8.2.2.toNat]? with | some c17 => (match Rrd1 (c17.drop 2) with | some e18 => (match (!(((e16.1 == e18.1) && ((e16.2.1 == e18.2.1) && ((e16.2.2.1 == e18.2.2.1) && ((e16.2.2.2.1 == e18.2.2.2.1) && true)))) && ((e16.2.2.2.2.1 == e18.2.2.2.2.1) && ((e16.2.2.2.2.2.1 == e18.2.2.2.2.2.1) && ((e16.2.2.2.2.2.2.1 == e18.2.2.2.2.2.2.1) && ((e16.2.2.2.2.2.2.2.1 == e18.2.2.2.2.2.2.2.1) && ((e16.2.2.2.2.2.2.2.2.1 == e18.2.2.2.2.2.2.2.2.1) && true))))))) with | true => (ke (.inl false)) | false => (if 0 ≤ u8.2.2 then (match u8.1[u8.2.2.toNat]? with | some c19 => (match (c19.drop 11)[0]? with | some x20 => (match x20 with | .v (.int q22 n21) => (if q22 = .i64 then (if 0 ≤ u8.2.2 then (match u8.2.1[u8.2.2.toNat]? with | some c23 => (match (c23.drop 11)[0]? with | some x24 => (match x24 with | .v (.int q26 n25) => (if q26 = .i64 then (match (n21 != n25) with | true => (ke (.inl false)) | false => (if 0 ≤ u8.2.2 then (match u8.1[u8.2.2.toNat]? with | some c27 => (match (c27.drop 37)[0]? with | some x28 => (match x28 with | .v (.int q30 n29) => (if q30 = .i64 then (if 0 ≤ u8.2.2 then (match u8.2.1[u8.2.2.toNat]? with | some c31 => (match (c31.drop 37)[0]? with | some x32 => (match x32 with | .v (.int q34 n33) => (if q34 = .i64 then (match (n29 != n33) with | true => (ke (.inl false)) | false => (if 0 ≤ u8.2.2 then (match u8.1[u8.2.2.toNat]? with | some c35 => (match Rrd0 (c35.drop 12) with | some e36 => (if 0 ≤ u8.2.2 then (match u8.2.1[u8.2.2.toNat]? with | some c37 => (match Rrd0 (c37.drop 12) with | some e38 => (match F22_d N (e36, e38) with | some y39 => (match (!y39) with | true => (ke (.inl false)) | false => (kn (u8.1, u8.2.1, (i64 (u8.2.2 + 1))))) | none => none) | none => none) | none => none) else none) | none => none) | none => none) else none)) else none) | _ => none) | none => none) | none => none) else none) else none) | _ => none) | none => none) | none => none) else none)) else none) | _ => none) | none => none) | none => none) else none) else none) | _ => none) | none => none) | none => none) else none)) | none => none) | none => none) else none) | none => none) | none => none) else none)) | _ => none) | none => none) | none => none) else none) | _ => none) | none => none) | none => none) else none)) else none) | _ => none) | none => none) | none => none) else none) else none) | _ => none) | none => none) | none => none) else none) | false => (ke (.inr ())))
noncomputable abbrev F17_d8 (N : Nat) (x : (List (List AV)) × (List (List AV)) × Int) : Option ((Bool) ⊕ (Unit)) := (jt N).L N x
noncomputable def ziq (N : Nat) : FSpec where
  X := (List (List AV)) × (List (List AV))
  Y := Bool
  ash := [[some 38], [some 38]]
  bsh := []
  S := ⟨[[none]], [], [], [], []⟩
  bm := false
  pat := fun a b => rdA [.lst 38, .lst 38] [] a b fun ⟨a0, a1, _⟩ _ => (a0, a1)
  args := fun x => [(AV.list 38 x.1 none), (AV.list 38 x.2 none)]
  bs := fun x => []
  ret := fun y => ⟨(AV.v (.bool y)), [], none, [], [], []⟩
  t := fun x α k => (match ((x.1.length : Int) != (x.2.length : Int)) with | true => (k false) | false => (match F17_d8 N (x.1, x.2, 0) with | some y40 => (match y40 with | .inl z41 => (k z41) | .inr z42 => (k true)) | none => none))
noncomputable abbrev F17_d (N : Nat) (x : (List (List AV)) × (List (List AV))) : Option (Bool) := (ziq N).d x
noncomputable def zfu (N : Nat) : List (Nat × LSpec) := [(8, jt N)]
noncomputable def F17_c : Code := Try.f17.body.getD .skip
theorem F17_par8 (N : Nat) : Par (jt N).b := by
  intro x α β kn ke kn' ke' r r' h h1 h2
  revert h
  dsimp only [jt]
  (repeat' (first | (with_reducible refine zf ?_ ?_) | (with_reducible refine zc ?_ ?_) | split)) <;> intro h <;> first | exact h1 _ h | exact h2 _ h | (cases h; done)
theorem zkG (N : Nat) : BdOk (zt Try.prog) (F17_g N) JQ N (zfu N) 8 F17_c (jt N) := fun x α kn ke => by kernel_rfl
theorem zkT (N : Nat) : LpOk Try.prog JQ N (zfu N) 8 (zd 8 F17_c) :=
  zD (ze Try.prog) (zk _) zn JQ N (zfu N) 8 F17_c (l := []) (by kernel_rfl) (by kernel_rfl) an (jt N) rfl (fun s x hc h => by dsimp only [jt] at h; exact zH hc h (fun _ _ => rfl) rfl rfl) (fun _ => rfl) (zkG N) (F17_par8 N)
theorem F17_parF (N : Nat) : ParF (ziq N).t := by
  intro x α β k k' r r' h h1
  revert h
  dsimp only [ziq]
  (repeat' (first | (with_reducible refine zf ?_ ?_) | (with_reducible refine zc ?_ ?_) | split)) <;> intro h <;> first | exact h1 _ h | (cases h; done)
theorem F17_text (N : Nat) : TxOk (zt Try.prog) (F17_g N) JQ (lam N (zfu N)) Try.f17 (ziq N) := fun x => by kernel_rfl
noncomputable def F17_e (N : Nat) : Ent Try.prog := zC (ze Try.prog) (zk _) zn 17 Try.f17 Try.func17 rfl JQ (lam N (zfu N)) (zq (l := [(8, zd 8 F17_c)]) (al (zkT N) an) (by kernel_rfl)) (ziq N) (fun _ => ⟨rfl, rfl⟩) (F17_text N) (fun _ _ _ h => zB h (fun _ _ => rfl) (fun _ _ => rfl)) (F17_parF N)
def F36_an : Nat → Keep × Keep := anL []
noncomputable def F36_g (N : Nat) : GamK := gam (P := Try.prog) []
noncomputable def zk1 (N : Nat) : FSpec where
  X := Unit
  Y := (List (List AV)) × Int × Int
  ash := []
  bsh := []
  S := ⟨[[some 4, none, none]], [], [], [], []⟩
  bm := false
  pat := fun a b => rdA [] [] a b fun _ _ => ()
  args := fun x => []
  bs := fun x => []
  ret := fun y => ⟨(AV.agg [(AV.list 4 y.1 none), (AV.v (.int .i64 y.2.1)), (AV.v (.int .i64 y.2.2))]), [], none, [], [], []⟩
  t := fun x α k => (k ([(Ren4 ((-1000), 1, 10000, 100000, ()))], 0, 0))
noncomputable abbrev F36_d (N : Nat) (x : Unit) : Option ((List (List AV)) × Int × Int) := (zk1 N).d x
theorem F36_parF (N : Nat) : ParF (zk1 N).t := by
  intro x α β k k' r r' h h1
  revert h
  dsimp only [zk1]
  (repeat' (first | (with_reducible refine zf ?_ ?_) | (with_reducible refine zc ?_ ?_) | split)) <;> intro h <;> first | exact h1 _ h | (cases h; done)
theorem F36_text (N : Nat) : TxOk (zt Try.prog) (F36_g N) F36_an (lam N []) Try.f36 (zk1 N) := fun x => by kernel_rfl
noncomputable def F36_e (N : Nat) : Ent Try.prog := zC (ze Try.prog) (zk _) zn 36 Try.f36 Try.func36 rfl F36_an (lam N []) (zq (l := []) an (by kernel_rfl)) (zk1 N) (fun _ => ⟨rfl, rfl⟩) (F36_text N) (fun _ _ _ h => zB h (fun _ _ => rfl) (fun _ _ => rfl)) (F36_parF N)
def F15_an : Nat → Keep × Keep := anL []
noncomputable def F15_g (N : Nat) : GamK := gam (P := Try.prog) [F35_e N, F36_e N, F11_e N]
noncomputable def zhK (N : Nat) : FSpec where
  X := Unit
  Y := Bool
  ash := []
  bsh := []
  S := ⟨[[none]], [], [], [], []⟩
  bm := false
  pat := fun a b => rdA [] [] a b fun _ _ => ()
  args := fun x => []
  bs := fun x => []
  ret := fun y => ⟨(AV.v (.bool y)), [], none, [], [], []⟩
  t := fun x α k => (match F35_d N 0 with | some y1 => (match F36_d N () with | some y2 => (match zfd N (y2.1, y2.2.1, y2.2.2, ([] : List (List AV)), 4, [(Ren0 (y1.1, y1.2.1, y1.2.2.1, y1.2.2.2.1, 1000, 0, 0, 0, 0, [(Ren1 (y1.1, y1.2.1, y1.2.2.1, y1.2.2.2.1, 1000, 0, 0, 0, 0, ()))], 0, 0, 0, 900, 0, 0, 0, 0, 0, 0, 0, 0, 0, 0, 1, ()))], 1200) with | some y3 => (match F36_d N () with | some y4 => (match zfd N (y4.1, y4.2.1, y4.2.2, y3.1, 5, ([] : List (List AV)), 1300) with | some y5 => (match (y3.2.2 == 0) with | true => (match ((y3.1.length : Int) == 1) with | true => (match ((y3.2.1.length : Int) == 1) with | true => (if 0 ≤ (0 : Int) then (match y3.2.1[(0 : Int).toNat]? with | some c6 => (match (c6.drop 1)[0]? with | some x7 => (match x7 with | .v (.int q9 n8) => (if q9 = .i64 then (match (n8 == 1) with | true => (if 0 ≤ (0 : Int) then (match y3.2.1[(0 : Int).toNat]? with | some c10 => (match (c10.drop 2)[0]? with | some x11 => (match x11 with | .v (.int q13 n12) => (if q13 = .i64 then (match (n12 == 4) with | true => (match (y5.2.2 == 0) with | true => (match ((y5.1.length : Int) == 1) with | true => (if 0 ≤ (0 : Int) then (match y5.1[(0 : Int).toNat]? with | some c14 => (match (c14.drop 1)[0]? with | some x15 => (match x15 with | .v (.bool b16) => (match b16 with | true => (match ((y5.2.1.length : Int) == 1) with | true => (if 0 ≤ (0 : Int) then (match y5.2.1[(0 : Int).toNat]? with | some c17 => (match (c17.drop 1)[0]? with | some x18 => (match x18 with | .v (.int q20 n19) => (if q20 = .i64 then (match (n19 == 3) with | true => (if 0 ≤ (0 : Int) then (match y5.2.1[(0 : Int).toNat]? with | some c21 => (match (c21.drop 0)[0]? with | some x22 => (match x22 with | .v (.int q24 n23) => (if q24 = .i64 then (match (n23 == 5) with | true => (if 0 ≤ (0 : Int) then (match y5.2.1[(0 : Int).toNat]? with | some c25 => (match (c25.drop 2)[0]? with | some x26 => (match x26 with | .v (.int q28 n27) => (if q28 = .i64 then (k (n27 == 4)) else none) | _ => none) | none => none) | none => none) else none) | false => (k false)) else none) | _ => none) | none => none) | none => none) else none) | false => (k false)) else none) | _ => none) | none => none) | none => none) else none) | false => (k false)) | false => (k false)) | _ => none) | none => none) | none => none) else none) | false => (k false)) | false => (k false)) | false => (k false)) else none) | _ => none) | none => none) | none => none) else none) | false => (k false)) else none) | _ => none) | none => none) | none => none) else none) | false => (k false)) | false => (k false)) | false => (k false)) | none => none) | none => none) | none => none) | none => none) | none => none)
noncomputable abbrev F15_d (N : Nat) (x : Unit) : Option (Bool) := (zhK N).d x
theorem F15_parF (N : Nat) : ParF (zhK N).t := by
  intro x α β k k' r r' h h1
  revert h
  dsimp only [zhK]
  (repeat' (first | (with_reducible refine zf ?_ ?_) | (with_reducible refine zc ?_ ?_) | split)) <;> intro h <;> first | exact h1 _ h | (cases h; done)
theorem F15_text (N : Nat) : TxOk (zt Try.prog) (F15_g N) F15_an (lam N []) Try.f15 (zhK N) := fun x => by kernel_rfl
noncomputable def F15_e (N : Nat) : Ent Try.prog := zC (ze Try.prog) (zk _) zn 15 Try.f15 Try.func15 rfl F15_an (lam N []) (zq (l := []) an (by kernel_rfl)) (zhK N) (fun _ => ⟨rfl, rfl⟩) (F15_text N) (fun _ _ _ h => zB h (fun _ _ => rfl) (fun _ _ => rfl)) (F15_parF N)
end Go.Proofs.Ytnnfpoelkdgjdaa
end
section
namespace Go.Proofs.Ytnnfpoelkdgjdaa
open Go.RowKit
set_option linter.unusedVariables false
set_option linter.unusedSimpArgs false
set_option linter.unnecessarySimpa false
set_option maxRecDepth 4000
def jD : Nat → Keep × Keep := anL [(14, ⟨[12, 63, 64], [], [], [(5, 38), (8, 25), (9, 38), (62, 30)], [], [], [], [], false⟩, ⟨[12], [], [], [(5, 38), (8, 25), (9, 38)], [], [], [], [], false⟩), (26, ⟨[12, 75, 76], [], [], [(5, 38), (8, 25), (9, 38)], [], [], [], [], false⟩, ⟨[2, 12], [], [], [(5, 38), (8, 25), (9, 38)], [], [], [], [], false⟩), (41, ⟨[12, 16, 119, 120], [], [114], [(5, 38), (8, 25), (9, 38), (17, 1), (118, 1)], [], [], [], [114], false⟩, ⟨[2, 12], [], [], [(5, 38), (9, 38), (17, 1)], [], [], [], [], false⟩)]
noncomputable def F5_g (N : Nat) : GamK := gam (P := Try.prog) [F7_e N, F8_e N, F9_e N, F16_e N, F10_e N, F11_e N, F18_e N, F17_e N, F19_e N, F15_e N]
noncomputable def jb (N : Nat) : LSpec where
  X := (List (List AV)) × (List (List AV)) × (List (List AV)) × (List (List AV)) × (List (List AV)) × Int × Nat × Int × Int × (List AV)
  Y := ((List (List AV)) × (List (List AV)) × (List (List AV)) × Bool × Int) ⊕ ((List (List AV)) × (List (List AV)) × (List (List AV)) × Int)
  p := fun s => rdS 179 0 [(5, .lst 38), (8, .lst 25), (9, .lst 38), (17, .lst 1), (118, .lst 1), (12, .int .i64), (16, .vs0 114 1), (119, .int .i64), (120, .int .i64)] [(114, .tt)] s fun ⟨a0, a1, a2, a3, a4, a5, a6, a7, a8, _⟩ ⟨a9, _⟩ => (a0, a1, a2, a3, a4, a5, a6, a7, a8, a9)
  st := fun u41 => mkS 179 [(5, (AV.list 38 u41.1 none)), (8, (AV.list 25 u41.2.1 none)), (9, (AV.list 38 u41.2.2.1 none)), (17, (AV.list 1 u41.2.2.2.1 none)), (118, (AV.list 1 u41.2.2.2.2.1 none)), (12, (AV.v (.int .i64 u41.2.2.2.2.2.1))), (16, (AV.vs 114 0 u41.2.2.2.2.2.2.1 1)), (119, (AV.v (.int .i64 u41.2.2.2.2.2.2.2.1))), (120, (AV.v (.int .i64 u41.2.2.2.2.2.2.2.2.1)))] [(114, u41.2.2.2.2.2.2.2.2.2)] (jD 41).1.toks 0
  out := fun y => match y with
    | .inl y => (.ret, mkS 179 [(5, (AV.list 38 y.1 none)), (9, (AV.list 38 y.2.1 none)), (17, (AV.list 1 y.2.2.1 none)), (2, (AV.v (.bool y.2.2.2.1))), (12, (AV.v (.int .i64 y.2.2.2.2)))] [] (jD 41).2.toks 0)
    | .inr y => (.exit 4, mkS 179 [(5, (AV.list 38 y.1 none)), (9, (AV.list 38 y.2.1 none)), (17, (AV.list 1 y.2.2.1 none)), (12, (AV.v (.int .i64 y.2.2.2)))] [] (jD 41).2.toks 0)
  sp := fun y α k => match y with
    | .inl y => k (.ret, mkS 179 [(5, (AV.list 38 y.1 none)), (9, (AV.list 38 y.2.1 none)), (17, (AV.list 1 y.2.2.1 none)), (2, (AV.v (.bool y.2.2.2.1))), (12, (AV.v (.int .i64 y.2.2.2.2)))] [] (jD 41).2.toks 0)
    | .inr y => k (.exit 4, mkS 179 [(5, (AV.list 38 y.1 none)), (9, (AV.list 38 y.2.1 none)), (17, (AV.list 1 y.2.2.1 none)), (12, (AV.v (.int .i64 y.2.2.2)))] [] (jD 41).2.toks 0)
  spe := fun y α k => by rcases y with _ | _ <;> rfl
  b := fun u41 α kn ke => (match (decide (u41.2.2.2.2.2.2.2.2.1 < u41.2.2.2.2.2.2.2.1)) with | true => (if 0 ≤ u41.2.2.2.2.2.2.2.2.1 then (match u41.2.2.2.2.1[u41.2.2.2.2.2.2.2.2.1.toNat]? with | some c28 => (match c28[0]? with | some x29 => (match x29 with | .v (.int q31 n30) => (if q31 = .i64 then (match (decide (n30 < (-1))) with | true => (ke (.inl (u41.1, u41.2.2.1, u41.2.2.2.1, false, u41.2.2.2.2.2.1))) | false => (match (decide (n30 ≥ (u41.2.1.length : Int))) with | true => (ke (.inl (u41.1, u41.2.2.1, u41.2.2.2.1, false, u41.2.2.2.2.2.1))) | false => (match (decide (n30 ≥ 0)) with | true => (if 0 ≤ n30 ∧ n30 < (u41.2.2.2.2.2.2.1 : Int) then (match u41.2.2.2.2.2.2.2.2.2[((0 + n30.toNat) * 1)]? with | some x32 => (match x32 with | .v (.bool b33) => (match b33 with | true => (ke (.inl (u41.1, u41.2.2.1, u41.2.2.2.1, false, u41.2.2.2.2.2.1))) | false => (match (decide (u41.2.2.2.2.2.2.2.2.1 < (u41.2.2.1.length : Int))) with | true => (if 0 ≤ u41.2.2.2.2.2.2.2.2.1 then (match u41.2.2.1[u41.2.2.2.2.2.2.2.2.1.toNat]? with | some c34 => (match (c34.drop 1)[0]? with | some x35 => (match x35 with | .v (.bool b36) => (match b36 with | true => (ke (.inl (u41.1, u41.2.2.1, u41.2.2.2.1, false, u41.2.2.2.2.2.1))) | false => (match (decide (n30 ≥ 0)) with | true => (if 0 ≤ n30 ∧ n30 < (u41.2.2.2.2.2.2.1 : Int) then (if ((0 + n30.toNat) * 1) + 1 ≤ u41.2.2.2.2.2.2.2.2.2.length then (kn (u41.1, u41.2.1, u41.2.2.1, u41.2.2.2.1, u41.2.2.2.2.1, u41.2.2.2.2.2.1, u41.2.2.2.2.2.2.1, u41.2.2.2.2.2.2.2.1, (i64 (u41.2.2.2.2.2.2.2.2.1 + 1)), ((splice u41.2.2.2.2.2.2.2.2.2 ((0 + n30.toNat) * 1) [(AV.v (.bool true))]).map dat0))) else none) else none) | false => (kn (u41.1, u41.2.1, u41.2.2.1, u41.2.2.2.1, u41.2.2.2.2.1, u41.2.2.2.2.2.1, u41.2.2.2.2.2.2.1, u41.2.2.2.2.2.2.2.1, (i64 (u41.2.2.2.2.2.2.2.2.1 + 1)), (u41.2.2.2.2.2.2.2.2.2.map dat0))))) | _ => none) | none => none) | none => none) else none) | false => (match (decide (n30 ≥ 0)) with | true => (if 0 ≤ n30 ∧ n30 < (u41.2.2.2.2.2.2.1 : Int) then (if ((0 + n30.toNat) * 1) + 1 ≤ u41.2.2.2.2.2.2.2.2.2.length then (kn (u41.1, u41.2.1, u41.2.2.1, u41.2.2.2.1, u41.2.2.2.2.1, u41.2.2.2.2.2.1, u41.2.2.2.2.2.2.1, u41.2.2.2.2.2.2.2.1, (i64 (u41.2.2.2.2.2.2.2.2.1 + 1)), ((splice u41.2.2.2.2.2.2.2.2.2 ((0 + n30.toNat) * 1) [(AV.v (.bool true))]).map dat0))) else none) else none) | false => (kn (u41.1, u41.2.1, u41.2.2.1, u41.2.2.2.1, u41.2.2.2.2.1, u41.2.2.2.2.2.1, u41.2.2.2.2.2.2.1, u41.2.2.2.2.2.2.2.1, (i64 (u41.2.2.2.2.2.2.2.2.1 + 1)), (u41.2.2.2.2.2.2.2.2.2.map dat0)))))) | _ => none) | none => none) else none) | false => (match (decide (n30 ≥ 0)) with | true => (if 0 ≤ n30 ∧ n30 < (u41.2.2.2.2.2.2.1 : Int) then (if ((0 + n30.toNat) * 1) + 1 ≤ u41.2.2.2.2.2.2.2.2.2.length then (kn (u41.1, u41.2.1, u41.2.2.1, u41.2.2.2.1, u41.2.2.2.2.1, u41.2.2.2.2.2.1, u41.2.2.2.2.2.2.1, u41.2.2.2.2.2.2.2.1, (i64 (u41.2.2.2.2.2.2.2.2.1 + 1)), ((splice u41.2.2.2.2.2.2.2.2.2 ((0 + n30.toNat) * 1) [(AV.v (.bool true))]).map dat0))) else none) else none) | false => (kn (u41.1, u41.2.1, u41.2.2.1, u41.2.2.2.1, u41.2.2.2.2.1, u41.2.2.2.2.2.1, u41.2.2.2.2.2.2.1, u41.2.2.2.2.2.2.2.1, (i64 (u41.2.2.2.2.2.2.2.2.1 + 1)), (u41.2.2.2.2.2.2.2.2.2.map dat0))))))) else none) | _ => none) | none => none) | none => none) else none) | false => (ke (.inr (u41.1, u41.2.2.1, u41.2.2.2.1, u41.2.2.2.2.2.1))))
noncomputable abbrev F5_d41 (N : Nat) (x : (List (List AV)) × (List (List AV)) × (List (List AV)) × (List (List AV)) × (List (List AV)) × Int × Nat × Int × Int × (List AV)) : Option (((List (List AV)) × (List (List AV)) × (List (List AV)) × Bool × Int) ⊕ ((List (List AV)) × (List (List AV)) × (List (List AV)) × Int)) := (jb N).L N x
noncomputable def jA (N : Nat) : LSpec where
  X := (List (List AV)) × (List (List AV)) × (List (List AV)) × Int × Int × Int
  Y := ((List (List AV)) × (List (List AV)) × (List (List AV)) × Bool × Int) ⊕ ((List (List AV)) × (List (List AV)) × (List (List AV)) × Int)
  p := fun s => rdS 179 0 [(5, .lst 38), (8, .lst 25), (9, .lst 38), (12, .int .i64), (75, .int .i64), (76, .int .i64)] [] s fun ⟨a0, a1, a2, a3, a4, a5, _⟩ _ => (a0, a1, a2, a3, a4, a5)
  st := fun u26 => mkS 179 [(5, (AV.list 38 u26.1 none)), (8, (AV.list 25 u26.2.1 none)), (9, (AV.list 38 u26.2.2.1 none)), (12, (AV.v (.int .i64 u26.2.2.2.1))), (75, (AV.v (.int .i64 u26.2.2.2.2.1))), (76, (AV.v (.int .i64 u26.2.2.2.2.2)))] [] (jD 26).1.toks 0
  out := fun y => match y with
    | .inl y => (.ret, mkS 179 [(5, (AV.list 38 y.1 none)), (8, (AV.list 25 y.2.1 none)), (9, (AV.list 38 y.2.2.1 none)), (2, (AV.v (.bool y.2.2.2.1))), (12, (AV.v (.int .i64 y.2.2.2.2)))] [] (jD 26).2.toks 0)
    | .inr y => (.exit 2, mkS 179 [(5, (AV.list 38 y.1 none)), (8, (AV.list 25 y.2.1 none)), (9, (AV.list 38 y.2.2.1 none)), (12, (AV.v (.int .i64 y.2.2.2)))] [] (jD 26).2.toks 0)
  sp := fun y α k => match y with
    | .inl y => k (.ret, mkS 179 [(5, (AV.list 38 y.1 none)), (8, (AV.list 25 y.2.1 none)), (9, (AV.list 38 y.2.2.1 none)), (2, (AV.v (.bool y.2.2.2.1))), (12, (AV.v (.int .i64 y.2.2.2.2)))] [] (jD 26).2.toks 0)
    | .inr y => k (.exit 2, mkS 179 [(5, (AV.list 38 y.1 none)), (8, (AV.list 25 y.2.1 none)), (9, (AV.list 38 y.2.2.1 none)), (12, (AV.v (.int .i64 y.2.2.2)))] [] (jD 26).2.toks 0)
  spe := fun y α k => by rcases y with _ | _ <;> rfl
  b := fun u26 α kn ke => (match (decide (u26.2.2.2.2.2 < u26.2.2.2.2.1)) with | true => (if 0 ≤ u26.2.2.2.2.2 then (match u26.1[u26.2.2.2.2.2.toNat]? with | some c12 => (match (c12.drop 0)[0]? with | some x13 => (match x13 with | .v (.int q15 n14) => (if q15 = .i64 then (if 0 ≤ u26.2.2.2.2.2 then (match u26.2.2.1[u26.2.2.2.2.2.toNat]? with | some c16 => (match (c16.drop 0)[0]? with | some x17 => (match x17 with | .v (.int q19 n18) => (if q19 = .i64 then (match (n14 != n18) with | true => (ke (.inl (u26.1, u26.2.1, u26.2.2.1, false, u26.2.2.2.1))) | false => (if 0 ≤ u26.2.2.2.2.2 then (match u26.1[u26.2.2.2.2.2.toNat]? with | some c20 => (match (c20.drop 1)[0]? with | some x21 => (match x21 with | .v (.bool b22) => (match b22 with | true => (if 0 ≤ u26.2.2.2.2.2 ∧ u26.2.2.2.2.2 ≤ (i64 (u26.2.2.2.2.2 + 1)) ∧ (i64 (u26.2.2.2.2.2 + 1)) ≤ u26.1.length then (if 0 ≤ u26.2.2.2.2.2 ∧ u26.2.2.2.2.2 ≤ (i64 (u26.2.2.2.2.2 + 1)) ∧ (i64 (u26.2.2.2.2.2 + 1)) ≤ u26.2.2.1.length then (match F17_d N (((u26.1.take (i64 (u26.2.2.2.2.2 + 1)).toNat).drop u26.2.2.2.2.2.toNat), ((u26.2.2.1.take (i64 (u26.2.2.2.2.2 + 1)).toNat).drop u26.2.2.2.2.2.toNat)) with | some y23 => (match (!y23) with | true => (ke (.inl (u26.1, u26.2.1, u26.2.2.1, false, u26.2.2.2.1))) | false => (kn (u26.1, u26.2.1, u26.2.2.1, u26.2.2.2.1, u26.2.2.2.2.1, (i64 (u26.2.2.2.2.2 + 1))))) | none => none) else none) else none) | false => (kn (u26.1, u26.2.1, u26.2.2.1, u26.2.2.2.1, u26.2.2.2.2.1, (i64 (u26.2.2.2.2.2 + 1))))) | _ => none) | none => none) | none => none) else none)) else none) | _ => none) | none => none) | none => none) else none) else none) | _ => none) | none => none) | none => none) else none) | false => (ke (.inr (u26.1, u26.2.1, u26.2.2.1, u26.2.2.2.1))))
noncomputable abbrev F5_d26 (N : Nat) (x : (List (List AV)) × (List (List AV)) × (List (List AV)) × Int × Int × Int) : Option (((List (List AV)) × (List (List AV)) × (List (List AV)) × Bool × Int) ⊕ ((List (List AV)) × (List (List AV)) × (List (List AV)) × Int)) := (jA N).L N x
noncomputable def jp (N : Nat) : LSpec where
  X := (List (List AV)) × (List (List AV)) × (List (List AV)) × (List (List AV)) × Int × Int × Int
  Y := ((List (List AV)) × (List (List AV)) × (List (List AV)) × Int)
  p := fun s => rdS 179 0 [(5, .lst 38), (8, .lst 25), (9, .lst 38), (62, .lst 30), (12, .int .i64), (63, .int .i64), (64, .int .i64)] [] s fun ⟨a0, a1, a2, a3, a4, a5, a6, _⟩ _ => (a0, a1, a2, a3, a4, a5, a6)
  st := fun u14 => mkS 179 [(5, (AV.list 38 u14.1 none)), (8, (AV.list 25 u14.2.1 none)), (9, (AV.list 38 u14.2.2.1 none)), (62, (AV.list 30 u14.2.2.2.1 none)), (12, (AV.v (.int .i64 u14.2.2.2.2.1))), (63, (AV.v (.int .i64 u14.2.2.2.2.2.1))), (64, (AV.v (.int .i64 u14.2.2.2.2.2.2)))] [] (jD 14).1.toks 0
  out := fun y => (.exit 0, mkS 179 [(5, (AV.list 38 y.1 none)), (8, (AV.list 25 y.2.1 none)), (9, (AV.list 38 y.2.2.1 none)), (12, (AV.v (.int .i64 y.2.2.2)))] [] (jD 14).2.toks 0)
  sp := fun y α k => k (.exit 0, mkS 179 [(5, (AV.list 38 y.1 none)), (8, (AV.list 25 y.2.1 none)), (9, (AV.list 38 y.2.2.1 none)), (12, (AV.v (.int .i64 y.2.2.2)))] [] (jD 14).2.toks 0)
  spe := fun y α k => rfl
  b := fun u14 α kn ke => (match (decide (u14.2.2.2.2.2.2 < u14.2.2.2.2.2.1)) with | true => (if 0 ≤ u14.2.2.2.2.2.2 then (match u14.2.2.2.1[u14.2.2.2.2.2.2.toNat]? with | some c9 => (match Rrd6 c9 with | some e10 => (match (e10.2.1 == 1) with | true => (kn (u14.1, u14.2.1, u14.2.2.1, u14.2.2.2.1, (i64 (u14.2.2.2.2.1 + 1)), u14.2.2.2.2.2.1, (i64 (u14.2.2.2.2.2.2 + 1)))) | false => (kn (u14.1, u14.2.1, u14.2.2.1, u14.2.2.2.1, u14.2.2.2.2.1, u14.2.2.2.2.2.1, (i64 (u14.2.2.2.2.2.2 + 1))))) | none => none) | none => none) else none) | false => (ke (u14.1, u14.2.1, u14.2.2.1, u14.2.2.2.2.1)))
noncomputable abbrev F5_d14 (N : Nat) (x : (List (List AV)) × (List (List AV)) × (List (List AV)) × (List (List AV)) × Int × Int × Int) : Option (((List (List AV)) × (List (List AV)) × (List (List AV)) × Int)) := (jp N).L N x
noncomputable def F5_s (N : Nat) : FSpec where
  X := (List (List AV))
  Y := Bool
  ash := [[some 1]]
  bsh := []
  S := ⟨[[none]], [], [], [], []⟩
  bm := false
  pat := fun a b => rdA [.lst 1] [] a b fun ⟨a0, _⟩ _ => a0
  args := fun x => [(AV.list 1 x none)]
  bs := fun x => []
  ret := fun y => ⟨(AV.v (.bool y)), [], none, [], [], []⟩
  t := fun x α k => (match F7_d N x with | some y1 => (match F8_d N y1 with | some y2 => (match F9_d N (5, y2.2.2.2) with | some y3 => (match F16_d N (y2.1, y2.2.1, y2.2.2.1, y3) with | some y4 => (match zi7 N (5, y4.2.2.2) with | some y5 => (match F9_d N (400, y5.2) with | some y6 => (match zfd N (y2.1, y2.2.1, y2.2.2.1, y4.1, y4.2.1, y5.1, (i64 (y4.2.2.1 + y6.1))) with | some y7 => (match (y7.2.2 != 0) with | true => (k false) | false => (match F18_d N y7.1 with | some y8 => (match (!y8) with | true => (k false) | false => (match (decide ((y7.1.length : Int) < (y4.1.length : Int))) with | true => (k false) | false => (match F5_d14 N (y4.1, y5.1, y7.1, y7.2.1, 0, (y7.2.1.length : Int), 0) with | some y11 => (match F5_d26 N (y11.1, y11.2.1, y11.2.2.1, y11.2.2.2, (y11.1.length : Int), 0) with | some y24 => (match y24 with | .inl z25 => (k z25.2.2.2.1) | .inr z26 => (if 0 ≤ (z26.2.1.length : Int) ∧ (z26.2.1.length : Int) ≤ (z26.2.1.length : Int) ∧ (z26.2.1.length : Int).toNat * 1 ≤ zl then (match zlX N (z26.2.2.1, z26.2.1) with | some y27 => (match F5_d41 N (z26.1, z26.2.1, z26.2.2.1, y27, y27, z26.2.2.2, ((z26.2.1.length : Int).toNat), (y27.length : Int), 0, ((List.replicate (z26.2.1.length : Int).toNat (AV.v (.bool false))).map dat0)) with | some y37 => (match y37 with | .inl z38 => (k z38.2.2.2.1) | .inr z39 => (match ((z39.2.1.length : Int) == (i64 ((z39.1.length : Int) + z39.2.2.2))) with | true => (match ((z39.2.2.1.length : Int) == (z39.2.1.length : Int)) with | true => (match F15_d N () with | some y40 => (k y40) | none => none) | false => (k false)) | false => (k false))) | none => none) | none => none) else none)) | none => none) | none => none))) | none => none)) | none => none) | none => none) | none => none) | none => none) | none => none) | none => none) | none => none)
noncomputable abbrev F5_d (N : Nat) (x : (List (List AV))) : Option (Bool) := (F5_s N).d x
noncomputable def zcc (N : Nat) : List (Nat × LSpec) := [(14, jp N), (26, jA N), (41, jb N)]
noncomputable def F5_c : Code := Try.f5.body.getD .skip
theorem F5_par41 (N : Nat) : Par (jb N).b := by
  intro x α β kn ke kn' ke' r r' h h1 h2
  revert h
  dsimp only [jb]
  (repeat' (first | (with_reducible refine zf ?_ ?_) | (with_reducible refine zc ?_ ?_) | split)) <;> intro h <;> first | exact h1 _ h | exact h2 _ h | (cases h; done)
theorem zjR (N : Nat) : BdOk (zt Try.prog) (F5_g N) jD N (zcc N) 41 F5_c (jb N) := fun x α kn ke => by kernel_rfl
theorem zj9 (N : Nat) : LpOk Try.prog jD N (zcc N) 41 (zd 41 F5_c) :=
  zD (ze Try.prog) (zk _) zn jD N (zcc N) 41 F5_c (l := []) (by kernel_rfl) (by kernel_rfl) an (jb N) rfl (fun s x hc h => by dsimp only [jb] at h; exact zH hc h (fun _ _ => rfl) rfl rfl) (fun _ => rfl) (zjR N) (F5_par41 N)
theorem F5_par26 (N : Nat) : Par (jA N).b := by
  intro x α β kn ke kn' ke' r r' h h1 h2
  revert h
  dsimp only [jA]
  (repeat' (first | (with_reducible refine zf ?_ ?_) | (with_reducible refine zc ?_ ?_) | split)) <;> intro h <;> first | exact h1 _ h | exact h2 _ h | (cases h; done)
theorem zl7 (N : Nat) : BdOk (zt Try.prog) (F5_g N) jD N (zcc N) 26 F5_c (jA N) := fun x α kn ke => by kernel_rfl
theorem zmG (N : Nat) : LpOk Try.prog jD N (zcc N) 26 (zd 26 F5_c) :=
  zD (ze Try.prog) (zk _) zn jD N (zcc N) 26 F5_c (l := []) (by kernel_rfl) (by kernel_rfl) an (jA N) rfl (fun s x hc h => by dsimp only [jA] at h; exact zH hc h (fun _ _ => rfl) rfl rfl) (fun _ => rfl) (zl7 N) (F5_par26 N)
theorem F5_par14 (N : Nat) : Par (jp N).b := by
  intro x α β kn ke kn' ke' r r' h h1 h2
  revert h
  dsimp only [jp]
  (repeat' (first | (with_reducible refine zf ?_ ?_) | (with_reducible refine zc ?_ ?_) | split)) <;> intro h <;> first | exact h1 _ h | exact h2 _ h | (cases h; done)
theorem zlY (N : Nat) : BdOk (zt Try.prog) (F5_g N) jD N (zcc N) 14 F5_c (jp N) := fun x α kn ke => by kernel_rfl
theorem zj1 (N : Nat) : LpOk Try.prog jD N (zcc N) 14 (zd 14 F5_c) :=
  zD (ze Try.prog) (zk _) zn jD N (zcc N) 14 F5_c (l := []) (by kernel_rfl) (by kernel_rfl) an (jp N) rfl (fun s x hc h => by dsimp only [jp] at h; exact zH hc h (fun _ _ => rfl) rfl rfl) (fun _ => rfl) (zlY N) (F5_par14 N)
theorem F5_parF (N : Nat) : ParF (F5_s N).t := by
  intro x α β k k' r r' h h1
  revert h
  dsimp only [F5_s]
  (repeat' (first | (with_reducible refine zf ?_ ?_) | (with_reducible refine zc ?_ ?_) | split)) <;> intro h <;> first | exact h1 _ h | (cases h; done)
theorem F5_text (N : Nat) : TxOk (zt Try.prog) (F5_g N) jD (lam N (zcc N)) Try.f5 (F5_s N) := fun x => by kernel_rfl
noncomputable def F5_e (N : Nat) : Ent Try.prog := zC (ze Try.prog) (zk _) zn 5 Try.f5 Try.func5 rfl jD (lam N (zcc N)) (zq (l := [(14, zd 14 F5_c), (26, zd 26 F5_c), (41, zd 41 F5_c)]) (al (zj1 N) (al (zmG N) (al (zj9 N) an))) (by kernel_rfl)) (F5_s N) (fun _ => ⟨rfl, rfl⟩) (F5_text N) (fun _ _ _ h => zB h (fun _ _ => rfl) (fun _ _ => rfl)) (F5_parF N)
end Go.Proofs.Ytnnfpoelkdgjdaa
end
section
namespace Go.Proofs.Ytnnfpoelkdgjdaa
set_option linter.unusedVariables false
set_option linter.unusedSimpArgs false
set_option linter.unnecessarySimpa false
def zA (xs : List Int) : List (List AV) := xs.map fun x => [I x]
theorem zL {x : Int} (h : -9223372036854775808 ≤ x ∧ x ≤ 9223372036854775807) : i64 x = x := IntWalk.i64_in _ (by omega)
theorem jU (xs : List Int) : (zA xs).length = xs.length := by simp [zA]
theorem zck (xs : List Int) (k : Nat) (h : k < xs.length) : (zA xs)[k]? = some [I xs[k]] := by simp [zA, h]
structure Sc (xs : List Int) (p : Int) : Prop where
  l : xs.length ≤ 2000
  p0 : 0 ≤ p
  p1 : p ≤ xs.length
theorem raw_ok (N : Nat) {xs : List Int} {p : Int} (D : Sc xs p) : ∃ v p', F25_d N (zA xs, p) = some (v, zA xs, p') ∧ Sc xs p' := by
  obtain ⟨l, p0, p1⟩ := D
  simp only [F25_d, FSpec.d, zjg]
  by_cases h : p ≥ ((zA xs).length : Int)
  · simp only [h, decide_true]
    exact ⟨0, p, rfl, ⟨l, p0, p1⟩⟩
  · have h0 := h
    rw [jU] at h0
    have h2 : p.toNat < xs.length := by omega
    have hp : i64 (p + 1) = p + 1 := zL (by omega)
    have hq : i64 (p + 1 - 1) = p := by rw [zL (by omega)]; omega
    simp only [h, decide_false, hp, hq, p0, if_true, zck xs _ h2, List.getElem?_cons_zero]
    exact ⟨_, _, rfl, ⟨l, by omega, by omega⟩⟩
theorem mod_ok (N : Nat) (v : Int) {n : Int} (hn : 1 ≤ n ∧ n ≤ 1000000) : ∃ r, F24_d N (v, n) = some r ∧ 0 ≤ r ∧ r < n := by
  simp only [F24_d, FSpec.d, zh0]
  have h1 : ¬ n < 1 := by omega
  have h3 : ¬ n = 0 := by omega
  simp only [h1, decide_false, h3, if_false]
  by_cases hneg : v.tmod n < 0
  · simp only [hneg, decide_true]
    have t1 : -n < v.tmod n := by
      have := Int.tmod_lt_of_pos (-v) (show 0 < n by omega)
      rw [Int.neg_tmod] at this
      omega
    rw [zL (by omega)]
    exact ⟨_, rfl, by omega, by omega⟩
  · simp only [hneg, decide_false]
    have t1 := Int.tmod_lt_of_pos v (show 0 < n by omega)
    exact ⟨_, rfl, by omega, by omega⟩
theorem n_ok (N : Nat) {n : Int} {xs : List Int} {p : Int} (hn : 1 ≤ n ∧ n ≤ 1000000) (D : Sc xs p) : ∃ v p', F9_d N (n, zA xs, p) = some (v, zA xs, p') ∧ (0 ≤ v ∧ v < n) ∧ Sc xs p' := by
  obtain ⟨v, p', h1, h2⟩ := raw_ok N D
  obtain ⟨r, h3, h4⟩ := mod_ok N v hn
  refine ⟨r, p', ?_, h4, h2⟩
  simp only [F9_d, FSpec.d, F9_s]
  simp only [h1, h3]
theorem zbN (N : Nat) (O : List Int) {xs : List Int} {p : Int} (hO : 1 ≤ O.length ∧ O.length ≤ 1000) (D : Sc xs p) : ∃ v p', zbd N (zA O, zA xs, p) = some (v, zA xs, p') ∧ v ∈ O ∧ Sc xs p' := by
  simp only [zbd, FSpec.d, ziz]
  obtain ⟨v, p', h1, h2, h3⟩ := n_ok N (n := (O.length : Int)) (by omega) D
  rw [jU, h1]
  have h4 : v.toNat < O.length := by omega
  simp only [h2.1, if_true, zck O _ h4, List.getElem?_cons_zero]
  exact ⟨_, _, rfl, List.getElem_mem h4, h3⟩
theorem new_ok (N : Nat) (xs : List Int) : F7_d N (zA xs) = some (zA (xs.take 2000), 0) ∧ Sc (xs.take 2000) 0 := by
  refine ⟨?_, ⟨by simp; omega, by omega, by omega⟩⟩
  simp only [F7_d, FSpec.d, F7_s, jU]
  by_cases h : 2000 < (xs.length : Int)
  · have h2 : (0 ≤ (2000 : Int) ∧ (2000 : Int) ≤ xs.length) := by omega
    simp only [h, if_true, h2, and_self]
    simp [zA]
  · have h2 : (0 ≤ (xs.length : Int) ∧ (xs.length : Int) ≤ xs.length) := by omega
    simp only [h, if_false, h2, and_self, if_true]
    rw [List.take_of_length_le (by rw [jU]; omega), List.take_of_length_le (by omega)]
section
variable {T : Type} (en : T → List AV) (n : Nat) (hl : ∀ e, (en e).length = n)
def fl (L : List T) : List AV := (L.map en).flatten
include hl
theorem zan (L : List T) : (fl en L).length = L.length * n := by
  induction L with
  | nil => simp [fl]
  | cons a L ih =>
    show ((en a) ++ fl en L).length = _
    rw [List.length_append, ih, hl, List.length_cons, Nat.succ_mul, Nat.add_comm]
theorem zbD : ∀ (L : List T) (i j : Nat) (h : i < L.length), j ≤ n → (fl en L).drop (i * n + j) = (en L[i]).drop j ++ fl en (L.drop (i + 1))
  | a :: L, 0, j, h, hj => by
    show ((en a) ++ fl en L).drop (0 * n + j) = _
    rw [Nat.zero_mul, Nat.zero_add, List.drop_append_of_le_length (by rw [hl]; exact hj)]
    rfl
  | a :: L, i + 1, j, h, hj => by
    show ((en a) ++ fl en L).drop ((i + 1) * n + j) = _
    have e : (i + 1) * n + j = (en a).length + (i * n + j) := by rw [hl, Nat.succ_mul]; omega
    rw [e, List.drop_append, List.drop_eq_nil_of_le (by omega), Nat.add_sub_cancel_left, List.nil_append, zbD L i j (by simpa using h) hj]
    rfl
theorem zg6 (L : List T) (i j : Nat) (h : i < L.length) (hj : j < n) : (fl en L)[i * n + j]? = (en L[i])[j]? := by
  have := congrArg (fun l : List AV => l[0]?) (zbD en n hl L i j h (Nat.le_of_lt hj))
  simp only [List.getElem?_drop, Nat.add_zero] at this
  rw [this, List.getElem?_append_left (by rw [List.length_drop, hl]; omega)]
  simp
omit hl in
theorem zjO (L : List T) (a : T) : fl en L ++ en a = fl en (L ++ [a]) := by
  unfold fl
  rw [List.map_append, List.flatten_append]
  simp
theorem zdB (L : List T) (k : Nat) (hk : k = L.length) : (fl en L).take (k * n) = fl en L := by
  rw [List.take_of_length_le]
  rw [zan en n hl, hk]
  exact Nat.le_refl _
omit hl in
theorem zkQ (hd : ∀ e, (en e).map dat0 = en e) (L : List T) : (fl en L).map dat0 = fl en L := by
  induction L with
  | nil => rfl
  | cons a L ih =>
    show ((en a) ++ fl en L).map dat0 = (en a) ++ fl en L
    rw [List.map_append, ih, hd]
theorem zdw (hd : ∀ e, (en e).map dat0 = en e) : ∀ L : List T, zO (fl en L) n L.length = L.map en
  | [] => rfl
  | a :: L => by
    show ((((en a) ++ fl en L).take n).map dat0) :: zO (((en a) ++ fl en L).drop n) n L.length = en a :: L.map en
    have e1 : ((en a) ++ fl en L).take n = en a := by rw [← hl a, List.take_left]
    have e2 : ((en a) ++ fl en L).drop n = fl en L := by rw [← hl a, List.drop_left]
    rw [e1, e2, hd, zdw hd L]
theorem zce (hd : ∀ e, (en e).map dat0 = en e) (L : List T) (k : Nat) (hk : k = L.length) : zO ((fl en L).take (k * n)) n k = L.map en := by
  rw [zdB en n hl L k hk, hk, zdw en n hl hd L]
theorem zex (L : List T) (i j : Nat) (h : i < L.length) (new : List AV) (b : T) (hb : splice (en L[i]) j new = en b) (hj : j + new.length ≤ n) : splice (fl en L) (i * n + j) new = fl en (L.set i b) := by
  have hlen : i * n + j + new.length ≤ (fl en L).length := by
    rw [zan en n hl]
    have : (i + 1) * n ≤ L.length * n := Nat.mul_le_mul_right n h
    rw [Nat.succ_mul] at this
    omega
  refine List.ext_getElem? fun k => ?_
  rw [jW new _ _ hlen]
  by_cases hn : n = 0
  · have e1 : ∀ L' : List T, fl en L' = [] := fun L' => List.eq_nil_of_length_eq_zero (by rw [zan en n hl, hn, Nat.mul_zero])
    rw [e1, e1]
    have : ¬ (i * n + j ≤ k ∧ k < i * n + j + new.length) := by omega
    rw [if_neg this]
  have hpos : 0 < n := Nat.pos_of_ne_zero hn
  by_cases hk : k < L.length * n
  · obtain ⟨q, r, hq, hr, rfl⟩ : ∃ q r, q < L.length ∧ r < n ∧ k = q * n + r := ⟨k / n, k % n, (Nat.div_lt_iff_lt_mul hpos).2 hk, Nat.mod_lt _ hpos, by rw [Nat.mul_comm]; exact (Nat.div_add_mod k n).symm⟩
    rw [zg6 en n hl L q r hq hr, zg6 en n hl (L.set i b) q r (by simpa using hq) hr, List.getElem_set]
    by_cases e : i = q
    · subst e
      simp only [if_true]
      rw [← hb, jW new _ _ (by rw [hl]; exact hj)]
      have c : (i * n + j ≤ i * n + r ∧ i * n + r < i * n + j + new.length) ↔ (j ≤ r ∧ r < j + new.length) := by omega
      by_cases c2 : j ≤ r ∧ r < j + new.length
      · rw [if_pos (c.2 c2), if_pos c2]
        congr 1
        omega
      · rw [if_neg (fun x => c2 (c.1 x)), if_neg c2]
    · rw [if_neg e, if_neg]
      rintro ⟨c1, c2⟩
      rcases Nat.lt_or_gt_of_ne e with h1 | h1
      · have : (i + 1) * n ≤ q * n := Nat.mul_le_mul_right n h1
        rw [Nat.succ_mul] at this
        omega
      · have : (q + 1) * n ≤ i * n := Nat.mul_le_mul_right n h1
        rw [Nat.succ_mul] at this
        omega
  · have e1 : (fl en L)[k]? = none := List.getElem?_eq_none (by rw [zan en n hl]; omega)
    have e2 : (fl en (L.set i b))[k]? = none := List.getElem?_eq_none (by rw [zan en n hl, List.length_set]; omega)
    have : ¬ (i * n + j ≤ k ∧ k < i * n + j + new.length) := by
      rw [zan en n hl] at hlen
      omega
    rw [if_neg this, e1, e2]
end
end Go.Proofs.Ytnnfpoelkdgjdaa
end
