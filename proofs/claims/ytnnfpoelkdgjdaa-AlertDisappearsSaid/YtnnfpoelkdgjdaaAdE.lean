/- Several texts as one (written by pack.py). -/
import Derived.Test.YtnnfpoelkdgjdaaAdD
section
namespace Go.Proofs.Ytnnfpoelkdgjdaa
open Go.RowKit
set_option linter.unusedVariables false
set_option linter.unusedSimpArgs false
set_option linter.unnecessarySimpa false
set_option maxRecDepth 4000
def F54_an : Nat → Keep × Keep := anL []
noncomputable def F54_g (N : Nat) : GamK := gam (P := Try.prog) []
noncomputable def zhF (N : Nat) : FSpec where
  X := Int
  Y := Bool
  ash := [[none]]
  bsh := []
  S := ⟨[[none]], [], [], [], []⟩
  bm := false
  pat := fun a b => rdA [.int .i64] [] a b fun ⟨a0, _⟩ _ => a0
  args := fun x => [(AV.v (.int .i64 x))]
  bs := fun x => []
  ret := fun y => ⟨(AV.v (.bool y)), [], none, [], [], []⟩
  t := fun x α k => (match (decide (x ≥ 0)) with | true => (k (decide (x ≤ 9007199254740992))) | false => (k false))
noncomputable abbrev zjp (N : Nat) (x : Int) : Option (Bool) := (zhF N).d x
theorem F54_parF (N : Nat) : ParF (zhF N).t := by
  intro x α β k k' r r' h h1
  revert h
  dsimp only [zhF]
  (repeat' (first | (with_reducible refine zg ?_ ?_) | (with_reducible refine zc ?_ ?_) | split)) <;> intro h <;> first | exact h1 _ h | (cases h; done)
theorem F54_text (N : Nat) : TxOk (zt Try.prog) (F54_g N) F54_an (lam N []) Try.f54 (zhF N) := fun x => by kernel_rfl
noncomputable def F54_e (N : Nat) : Ent Try.prog := zB (zf Try.prog) (zk _) zm 54 Try.f54 Try.func54 rfl F54_an (lam N []) (zp (l := []) an (by kernel_rfl)) (zhF N) (fun _ => ⟨rfl, rfl⟩) (F54_text N) (fun _ _ _ h => zA h (fun _ _ => rfl) (fun _ _ => rfl)) (F54_parF N)
def JS : Nat → Keep × Keep := anL [(8, ⟨[1, 3], [], [1], [], [], [], [], [], false⟩, ⟨[2], [], [], [], [], [], [], [], false⟩)]
noncomputable def F33_g (N : Nat) : GamK := gam (P := Try.prog) [F54_e N]
noncomputable def ju (N : Nat) : LSpec where
  X := Int × (List (List AV)) × Int × Int
  Y := (Int) ⊕ (Unit)
  p := fun s => rdS 69 0 [(1, .ptr 1 0), (3, .int .i64)] [(1, .cells [.lst 4, .int .i64, .int .i64])] s fun ⟨_, a0, _⟩ ⟨⟨a1, a2, a3, _⟩, _⟩ => (a0, a1, a2, a3)
  st := fun u8 => mkS 69 [(1, (AV.ptr 1 0)), (3, (AV.v (.int .i64 u8.1)))] [(1, [(AV.list 4 u8.2.1 none), (AV.v (.int .i64 u8.2.2.1)), (AV.v (.int .i64 u8.2.2.2))])] (JS 8).1.toks 0
  out := fun y => match y with
    | .inl y => (.ret, mkS 69 [(2, (AV.v (.int .i64 y)))] [] (JS 8).2.toks 0)
    | .inr y => (.exit 0, mkS 69 [] [] (JS 8).2.toks 0)
  sp := fun y α k => match y with
    | .inl y => k (.ret, mkS 69 [(2, (AV.v (.int .i64 y)))] [] (JS 8).2.toks 0)
    | .inr y => k (.exit 0, mkS 69 [] [] (JS 8).2.toks 0)
  spe := fun y α k => by rcases y with _ | _ <;> rfl
  b := fun u8 α kn ke => (match (decide (u8.1 < (u8.2.1.length : Int))) with | true => (if 0 ≤ u8.1 then (match u8.2.1[u8.1.toNat]? with | some c3 => (match Rrd4 c3 with | some e4 => (match (decide (e4.1 < (-1000))) with | true => (ke (.inl 27)) | false => (match (decide (e4.1 > 2000)) with | true => (ke (.inl 27)) | false => (match (decide (e4.2.1 < 1)) with | true => (ke (.inl 27)) | false => (match (decide (e4.2.1 > 64)) with | true => (ke (.inl 27)) | false => (match zjp N e4.2.2.1 with | some y5 => (match (!y5) with | true => (ke (.inl 27)) | false => (match zjp N e4.2.2.2.1 with | some y6 => (match (!y6) with | true => (ke (.inl 27)) | false => (kn ((i64 (u8.1 + 1)), u8.2))) | none => none)) | none => none))))) | none => none) | none => none) else none) | false => (ke (.inr ())))
noncomputable abbrev F33_d8 (N : Nat) (x : Int × (List (List AV)) × Int × Int) : Option ((Int) ⊕ (Unit)) := (ju N).L N x
noncomputable def zcT (N : Nat) : FSpec where
  X := (List (List AV)) × Int × Int
  Y := Int
  ash := [[some 4, none, none]]
  bsh := []
  S := ⟨[[none]], [], [], [], []⟩
  bm := false
  pat := fun a b => zj a fun v1 c2 => Z4 v1 fun c3 => zj c3 fun c4 c5 => pLst 4 c4 fun a0 => zj c5 fun c6 c7 => pInt .i64 c6 fun a1 => zj c7 fun c8 c9 => pInt .i64 c8 fun a2 => pEnd c9 <| pEnd c2 <| pEnd b <| some (a0, a1, a2)
  args := fun x => [(AV.agg [(AV.list 4 x.1 none), (AV.v (.int .i64 x.2.1)), (AV.v (.int .i64 x.2.2))])]
  bs := fun x => []
  ret := fun y => ⟨(AV.v (.int .i64 y)), [], none, [], [], []⟩
  t := fun x α k => (match (decide ((x.1.length : Int) < 1)) with | true => (k 27) | false => (match (decide ((x.1.length : Int) > 8)) with | true => (k 27) | false => (match zjp N x.2.1 with | some y1 => (match (!y1) with | true => (k 27) | false => (match zjp N x.2.2 with | some y2 => (match (!y2) with | true => (k 27) | false => (match F33_d8 N (0, x) with | some y7 => (match y7 with | .inl z8 => (k z8) | .inr z9 => (k 0)) | none => none)) | none => none)) | none => none)))
noncomputable abbrev zmA (N : Nat) (x : (List (List AV)) × Int × Int) : Option (Int) := (zcT N).d x
noncomputable def zeK (N : Nat) : List (Nat × LSpec) := [(8, ju N)]
noncomputable def F33_c : Code := Try.f33.body.getD .skip
theorem F33_par8 (N : Nat) : Par (ju N).b := by
  intro x α β kn ke kn' ke' r r' h h1 h2
  revert h
  dsimp only [ju]
  (repeat' (first | (with_reducible refine zg ?_ ?_) | (with_reducible refine zc ?_ ?_) | split)) <;> intro h <;> first | exact h1 _ h | exact h2 _ h | (cases h; done)
theorem zkZ (N : Nat) : BdOk (zt Try.prog) (F33_g N) JS N (zeK N) 8 F33_c (ju N) := fun x α kn ke => by kernel_rfl
theorem zlD (N : Nat) : LpOk Try.prog JS N (zeK N) 8 (zd 8 F33_c) :=
  zE (zf Try.prog) (zk _) zm JS N (zeK N) 8 F33_c (l := []) (by kernel_rfl) (by kernel_rfl) an (ju N) rfl (fun s x hc h => by dsimp only [ju] at h; exact zH hc h (fun _ _ => rfl) rfl rfl) (fun _ => rfl) (zkZ N) (F33_par8 N)
theorem F33_parF (N : Nat) : ParF (zcT N).t := by
  intro x α β k k' r r' h h1
  revert h
  dsimp only [zcT]
  (repeat' (first | (with_reducible refine zg ?_ ?_) | (with_reducible refine zc ?_ ?_) | split)) <;> intro h <;> first | exact h1 _ h | (cases h; done)
theorem F33_text (N : Nat) : TxOk (zt Try.prog) (F33_g N) JS (lam N (zeK N)) Try.f33 (zcT N) := fun x => by kernel_rfl
theorem F33_pat (N : Nat) (a : List AV) (b : List (List AV)) (x : (zcT N).X) (h : (zcT N).pat a b = some x) : a = (zcT N).args x ∧ b = (zcT N).bs x := by
  obtain ⟨v1, c2, rfl, g0⟩ := zb (show zj _ _ = some x from h)
  obtain ⟨c3, rfl, g1⟩ := zJ g0; clear g0
  obtain ⟨c4, c5, rfl, g2⟩ := zb g1; clear g1
  obtain ⟨a0, rfl, g3⟩ := zy g2; clear g2
  obtain ⟨c6, c7, rfl, g4⟩ := zb g3; clear g3
  obtain ⟨a1, rfl, g5⟩ := zi g4; clear g4
  obtain ⟨c8, c9, rfl, g6⟩ := zb g5; clear g5
  obtain ⟨a2, rfl, g7⟩ := zi g6; clear g6
  obtain ⟨rfl, g8⟩ := ze g7; clear g7
  obtain ⟨rfl, g9⟩ := ze g8; clear g8
  obtain ⟨rfl, g10⟩ := ze g9; clear g9
  clear h
  cases g10
  exact ⟨rfl, rfl⟩
noncomputable def F33_e (N : Nat) : Ent Try.prog := zB (zf Try.prog) (zk _) zm 33 Try.f33 Try.func33 rfl JS (lam N (zeK N)) (zp (l := [(8, zd 8 F33_c)]) (al (zlD N) an) (by kernel_rfl)) (zcT N) (fun _ => ⟨rfl, rfl⟩) (F33_text N) (F33_pat N) (F33_parF N)
def ja : Nat → Keep × Keep := anL [(4, ⟨[3], [], [], [(0, 38)], [], [], [], [], false⟩, ⟨[2], [], [], [(0, 38)], [], [], [], [], false⟩), (16, ⟨[3, 4], [], [], [(0, 38)], [], [], [], [], false⟩, ⟨[2, 3], [], [], [(0, 38)], [], [], [], [], false⟩)]
noncomputable def F72_g (N : Nat) : GamK := gam (P := Try.prog) []
noncomputable def ZC (N : Nat) : LSpec where
  X := (List (List AV)) × Int × Int
  Y := ((List (List AV)) × Bool × Int) ⊕ ((List (List AV)) × Int)
  p := fun s => rdS 94 0 [(0, .lst 38), (3, .int .i64), (4, .int .i64)] [] s fun ⟨a0, a1, a2, _⟩ _ => (a0, a1, a2)
  st := fun u16 => mkS 94 [(0, (AV.list 38 u16.1 none)), (3, (AV.v (.int .i64 u16.2.1))), (4, (AV.v (.int .i64 u16.2.2)))] [] (ja 16).1.toks 0
  out := fun y => match y with
    | .inl y => (.ret, mkS 94 [(0, (AV.list 38 y.1 none)), (2, (AV.v (.bool y.2.1))), (3, (AV.v (.int .i64 y.2.2)))] [] (ja 16).2.toks 0)
    | .inr y => (.exit 2, mkS 94 [(0, (AV.list 38 y.1 none)), (3, (AV.v (.int .i64 y.2)))] [] (ja 16).2.toks 0)
  sp := fun y α k => match y with
    | .inl y => k (.ret, mkS 94 [(0, (AV.list 38 y.1 none)), (2, (AV.v (.bool y.2.1))), (3, (AV.v (.int .i64 y.2.2)))] [] (ja 16).2.toks 0)
    | .inr y => k (.exit 2, mkS 94 [(0, (AV.list 38 y.1 none)), (3, (AV.v (.int .i64 y.2)))] [] (ja 16).2.toks 0)
  spe := fun y α k => by rcases y with _ | _ <;> rfl
  b := fun u16 α kn ke => (match (decide (u16.2.2 < u16.2.1)) with | true => (if 0 ≤ u16.2.1 then (match u16.1[u16.2.1.toNat]? with | some c25 => (match (c25.drop 1)[0]? with | some x26 => (match x26 with | .v (.bool b27) => (match (!b27) with | true => (if 0 ≤ u16.2.2 then (match u16.1[u16.2.2.toNat]? with | some c28 => (match (c28.drop 1)[0]? with | some x29 => (match x29 with | .v (.bool b30) => (match (!b30) with | true => (if 0 ≤ u16.2.1 then (match u16.1[u16.2.1.toNat]? with | some c31 => (match Rrd1 (c31.drop 2) with | some e32 => (if 0 ≤ u16.2.2 then (match u16.1[u16.2.2.toNat]? with | some c33 => (match Rrd1 (c33.drop 2) with | some e34 => (match (((e32.1 == e34.1) && ((e32.2.1 == e34.2.1) && ((e32.2.2.1 == e34.2.2.1) && ((e32.2.2.2.1 == e34.2.2.2.1) && true)))) && ((e32.2.2.2.2.1 == e34.2.2.2.2.1) && ((e32.2.2.2.2.2.1 == e34.2.2.2.2.2.1) && ((e32.2.2.2.2.2.2.1 == e34.2.2.2.2.2.2.1) && ((e32.2.2.2.2.2.2.2.1 == e34.2.2.2.2.2.2.2.1) && ((e32.2.2.2.2.2.2.2.2.1 == e34.2.2.2.2.2.2.2.2.1) && true)))))) with | true => (ke (.inl (u16.1, false, u16.2.1))) | false => (kn (u16.1, u16.2.1, (i64 (u16.2.2 + 1))))) | none => none) | none => none) else none) | none => none) | none => none) else none) | false => (kn (u16.1, u16.2.1, (i64 (u16.2.2 + 1))))) | _ => none) | none => none) | none => none) else none) | false => (kn (u16.1, u16.2.1, (i64 (u16.2.2 + 1))))) | _ => none) | none => none) | none => none) else none) | false => (ke (.inr (u16.1, u16.2.1))))
noncomputable abbrev zfU (N : Nat) (x : (List (List AV)) × Int × Int) : Option (((List (List AV)) × Bool × Int) ⊕ ((List (List AV)) × Int)) := (ZC N).L N x
noncomputable def jw (N : Nat) : LSpec where
  X := (List (List AV)) × Int
  Y := ((List (List AV)) × Bool) ⊕ ((List (List AV)))
  p := fun s => rdS 94 0 [(0, .lst 38), (3, .int .i64)] [] s fun ⟨a0, a1, _⟩ _ => (a0, a1)
  st := fun u4 => mkS 94 [(0, (AV.list 38 u4.1 none)), (3, (AV.v (.int .i64 u4.2)))] [] (ja 4).1.toks 0
  out := fun y => match y with
    | .inl y => (.ret, mkS 94 [(0, (AV.list 38 y.1 none)), (2, (AV.v (.bool y.2)))] [] (ja 4).2.toks 0)
    | .inr y => (.exit 0, mkS 94 [(0, (AV.list 38 y none))] [] (ja 4).2.toks 0)
  sp := fun y α k => match y with
    | .inl y => k (.ret, mkS 94 [(0, (AV.list 38 y.1 none)), (2, (AV.v (.bool y.2)))] [] (ja 4).2.toks 0)
    | .inr y => k (.exit 0, mkS 94 [(0, (AV.list 38 y none))] [] (ja 4).2.toks 0)
  spe := fun y α k => by rcases y with _ | _ <;> rfl
  b := fun u4 α kn ke => (match (decide (u4.2 < (u4.1.length : Int))) with | true => (if 0 ≤ u4.2 then (match u4.1[u4.2.toNat]? with | some c1 => (match (c1.drop 0)[0]? with | some x2 => (match x2 with | .v (.int q4 n3) => (if q4 = .i64 then (match (decide (n3 < 0)) with | true => (ke (.inl (u4.1, false))) | false => (if 0 ≤ u4.2 then (match u4.1[u4.2.toNat]? with | some c5 => (match (c5.drop 0)[0]? with | some x6 => (match x6 with | .v (.int q8 n7) => (if q8 = .i64 then (match (decide (n7 ≥ 1000)) with | true => (ke (.inl (u4.1, false))) | false => (match (decide (u4.2 > 0)) with | true => (if 0 ≤ u4.2 then (match u4.1[u4.2.toNat]? with | some c9 => (match (c9.drop 0)[0]? with | some x10 => (match x10 with | .v (.int q12 n11) => (if q12 = .i64 then (if 0 ≤ (i64 (u4.2 - 1)) then (match u4.1[(i64 (u4.2 - 1)).toNat]? with | some c13 => (match (c13.drop 0)[0]? with | some x14 => (match x14 with | .v (.int q16 n15) => (if q16 = .i64 then (match (decide (n11 ≤ n15)) with | true => (ke (.inl (u4.1, false))) | false => (if 0 ≤ u4.2 then (match u4.1[u4.2.toNat]? with | some c17 => (match (c17.drop 37)[0]? with | some x18 => (match x18 with | .v (.int q20 n19) => (if q20 = .i64 then (match (decide (n19 < 0)) with | true => (ke (.inl (u4.1, false))) | false => (if 0 ≤ u4.2 then (match u4.1[u4.2.toNat]? with | some c21 => (match (c21.drop 37)[0]? with | some x22 => (match x22 with | .v (.int q24 n23) => (if q24 = .i64 then (match (decide (n23 > 18014398509481984)) with | true => (ke (.inl (u4.1, false))) | false => (match zfU N (u4.1, u4.2, 0) with | some y35 => (match y35 with | .inl z36 => (ke (.inl (z36.1, z36.2.1))) | .inr z37 => (kn (z37.1, (i64 (z37.2 + 1))))) | none => none)) else none) | _ => none) | none => none) | none => none) else none)) else none) | _ => none) | none => none) | none => none) else none)) else none) | _ => none) | none => none) | none => none) else none) else none) | _ => none) | none => none) | none => none) else none) | false => (if 0 ≤ u4.2 then (match u4.1[u4.2.toNat]? with | some c38 => (match (c38.drop 37)[0]? with | some x39 => (match x39 with | .v (.int q41 n40) => (if q41 = .i64 then (match (decide (n40 < 0)) with | true => (ke (.inl (u4.1, false))) | false => (if 0 ≤ u4.2 then (match u4.1[u4.2.toNat]? with | some c42 => (match (c42.drop 37)[0]? with | some x43 => (match x43 with | .v (.int q45 n44) => (if q45 = .i64 then (match (decide (n44 > 18014398509481984)) with | true => (ke (.inl (u4.1, false))) | false => (match zfU N (u4.1, u4.2, 0) with | some y46 => (match y46 with | .inl z47 => (ke (.inl (z47.1, z47.2.1))) | .inr z48 => (kn (z48.1, (i64 (z48.2 + 1))))) | none => none)) else none) | _ => none) | none => none) | none => none) else none)) else none) | _ => none) | none => none) | none => none) else none))) else none) | _ => none) | none => none) | none => none) else none)) else none) | _ => none) | none => none) | none => none) else none) | false => (ke (.inr u4.1)))
noncomputable abbrev F72_d4 (N : Nat) (x : (List (List AV)) × Int) : Option (((List (List AV)) × Bool) ⊕ ((List (List AV)))) := (jw N).L N x
noncomputable def zhS (N : Nat) : FSpec where
  X := (List (List AV))
  Y := Bool
  ash := [[some 38]]
  bsh := []
  S := ⟨[[none]], [], [], [], []⟩
  bm := false
  pat := fun a b => rdA [.lst 38] [] a b fun ⟨a0, _⟩ _ => a0
  args := fun x => [(AV.list 38 x none)]
  bs := fun x => []
  ret := fun y => ⟨(AV.v (.bool y)), [], none, [], [], []⟩
  t := fun x α k => (match F72_d4 N (x, 0) with | some y49 => (match y49 with | .inl z50 => (k z50.2) | .inr z51 => (k (decide ((z51.length : Int) ≤ 200)))) | none => none)
noncomputable abbrev F72_d (N : Nat) (x : (List (List AV))) : Option (Bool) := (zhS N).d x
noncomputable def za0 (N : Nat) : List (Nat × LSpec) := [(4, jw N), (16, ZC N)]
noncomputable def zdF : Code := Try.f72.body.getD .skip
theorem zjS (N : Nat) : Par (ZC N).b := by
  intro x α β kn ke kn' ke' r r' h h1 h2
  revert h
  dsimp only [ZC]
  (repeat' (first | (with_reducible refine zg ?_ ?_) | (with_reducible refine zc ?_ ?_) | split)) <;> intro h <;> first | exact h1 _ h | exact h2 _ h | (cases h; done)
theorem zid (N : Nat) : BdOk (zt Try.prog) (F72_g N) ja N (za0 N) 16 zdF (ZC N) := fun x α kn ke => by kernel_rfl
theorem zc3 (N : Nat) : LpOk Try.prog ja N (za0 N) 16 (zd 16 zdF) :=
  zE (zf Try.prog) (zk _) zm ja N (za0 N) 16 zdF (l := []) (by kernel_rfl) (by kernel_rfl) an (ZC N) rfl (fun s x hc h => by dsimp only [ZC] at h; exact zH hc h (fun _ _ => rfl) rfl rfl) (fun _ => rfl) (zid N) (zjS N)
theorem F72_par4 (N : Nat) : Par (jw N).b := by
  intro x α β kn ke kn' ke' r r' h h1 h2
  revert h
  dsimp only [jw]
  (repeat' (first | (with_reducible refine zg ?_ ?_) | (with_reducible refine zc ?_ ?_) | split)) <;> intro h <;> first | exact h1 _ h | exact h2 _ h | (cases h; done)
theorem zml (N : Nat) : BdOk (zt Try.prog) (F72_g N) ja N (za0 N) 4 zdF (jw N) := fun x α kn ke => by kernel_rfl
theorem zmq (N : Nat) : LpOk Try.prog ja N (za0 N) 4 (zd 4 zdF) :=
  zE (zf Try.prog) (zk _) zm ja N (za0 N) 4 zdF (l := [(16, zd 16 zdF)]) (by kernel_rfl) (by kernel_rfl) (al (zc3 N) an) (jw N) rfl (fun s x hc h => by dsimp only [jw] at h; exact zH hc h (fun _ _ => rfl) rfl rfl) (fun _ => rfl) (zml N) (F72_par4 N)
theorem F72_parF (N : Nat) : ParF (zhS N).t := by
  intro x α β k k' r r' h h1
  revert h
  dsimp only [zhS]
  (repeat' (first | (with_reducible refine zg ?_ ?_) | (with_reducible refine zc ?_ ?_) | split)) <;> intro h <;> first | exact h1 _ h | (cases h; done)
theorem F72_text (N : Nat) : TxOk (zt Try.prog) (F72_g N) ja (lam N (za0 N)) Try.f72 (zhS N) := fun x => by kernel_rfl
noncomputable def F72_e (N : Nat) : Ent Try.prog := zB (zf Try.prog) (zk _) zm 72 Try.f72 Try.func72 rfl ja (lam N (za0 N)) (zp (l := [(4, zd 4 zdF), (16, zd 16 zdF)]) (al (zmq N) (al (zc3 N) an)) (by kernel_rfl)) (zhS N) (fun _ => ⟨rfl, rfl⟩) (F72_text N) (fun _ _ _ h => zA h (fun _ _ => rfl) (fun _ _ => rfl)) (F72_parF N)
def F95_an : Nat → Keep × Keep := anL []
noncomputable def F95_g (N : Nat) : GamK := gam (P := Try.prog) []
noncomputable def zjG (N : Nat) : FSpec where
  X := ByteArray × ByteArray
  Y := Int
  ash := [[none], [none]]
  bsh := []
  S := ⟨[[none]], [], [], [], []⟩
  bm := false
  pat := fun a b => rdA [.str, .str] [] a b fun ⟨a0, a1, _⟩ _ => (a0, a1)
  args := fun x => [(AV.v (.string x.1)), (AV.v (.string x.2))]
  bs := fun x => []
  ret := fun y => ⟨(AV.v (.int .i64 y)), [], none, [], [], []⟩
  t := fun x α k => (match (Go.Op.bytesLess x.1.toList x.2.toList) with | true => (k (-1)) | false => (match (!((Go.Op.bytesLess x.1.toList x.2.toList) || (x.1.toList == x.2.toList))) with | true => (k 1) | false => (k 0)))
noncomputable abbrev F95_d (N : Nat) (x : ByteArray × ByteArray) : Option (Int) := (zjG N).d x
theorem F95_parF (N : Nat) : ParF (zjG N).t := by
  intro x α β k k' r r' h h1
  revert h
  dsimp only [zjG]
  (repeat' (first | (with_reducible refine zg ?_ ?_) | (with_reducible refine zc ?_ ?_) | split)) <;> intro h <;> first | exact h1 _ h | (cases h; done)
theorem F95_text (N : Nat) : TxOk (zt Try.prog) (F95_g N) F95_an (lam N []) Try.f95 (zjG N) := fun x => by kernel_rfl
noncomputable def F95_e (N : Nat) : Ent Try.prog := zB (zf Try.prog) (zk _) zm 95 Try.f95 Try.func95 rfl F95_an (lam N []) (zp (l := []) an (by kernel_rfl)) (zjG N) (fun _ => ⟨rfl, rfl⟩) (F95_text N) (fun _ _ _ h => zA h (fun _ _ => rfl) (fun _ _ => rfl)) (F95_parF N)
def JR : Nat → Keep × Keep := anL [(4, ⟨[27, 28], [], [], [], [], [], [], [], false⟩, ⟨[4], [], [], [], [], [], [], [], false⟩)]
noncomputable def F93_g (N : Nat) : GamK := gam (P := Try.prog) [F95_e N]
noncomputable def zbO (N : Nat) : LSpec where
  X := RT4 × Int
  Y := (Int) ⊕ (Unit)
  p := fun s => rdS 35 0 [(27, .agg RK4), (28, .int .i64)] [] s fun ⟨a0, a1, _⟩ _ => (a0, a1)
  st := fun u4 => mkS 35 [(27, (AV.agg (Ren4 u4.1))), (28, (AV.v (.int .i64 u4.2)))] [] (JR 4).1.toks 0
  out := fun y => match y with
    | .inl y => (.ret, mkS 35 [(4, (AV.v (.int .i64 y)))] [] (JR 4).2.toks 0)
    | .inr y => (.exit 0, mkS 35 [] [] (JR 4).2.toks 0)
  sp := fun y α k => match y with
    | .inl y => k (.ret, mkS 35 [(4, (AV.v (.int .i64 y)))] [] (JR 4).2.toks 0)
    | .inr y => k (.exit 0, mkS 35 [] [] (JR 4).2.toks 0)
  spe := fun y α k => by rcases y with _ | _ <;> rfl
  b := fun u4 α kn ke => (match (decide (u4.2 < 4)) with | true => (if 0 ≤ u4.2 ∧ u4.2 < 4 then (match [(AV.v (.int .i64 u4.1.1)), (AV.v (.int .i64 u4.1.2.1)), (AV.v (.int .i64 u4.1.2.2.1)), (AV.v (.int .i64 u4.1.2.2.2.1))][(u4.2.toNat * 1)]? with | some x5 => (match x5 with | .v (.int q7 n6) => (if q7 = .i64 then (match (n6 != 0) with | true => (ke (.inl n6)) | false => (kn (u4.1, (i64 (u4.2 + 1))))) else none) | _ => none) | none => none) else none) | false => (ke (.inr ())))
noncomputable abbrev F93_d4 (N : Nat) (x : RT4 × Int) : Option ((Int) ⊕ (Unit)) := (zbO N).L N x
noncomputable def zls (N : Nat) : FSpec where
  X := RT2 × RT2
  Y := Int
  ash := [[none, none, none, none], [none, none, none, none]]
  bsh := []
  S := ⟨[[none]], [], [], [], []⟩
  bm := false
  pat := fun a b => rdA [.agg RK2, .agg RK2] [] a b fun ⟨a0, a1, _⟩ _ => (a0, a1)
  args := fun x => [(AV.agg (Ren2 x.1)), (AV.agg (Ren2 x.2))]
  bs := fun x => []
  ret := fun y => ⟨(AV.v (.int .i64 y)), [], none, [], [], []⟩
  t := fun x α k => (match F95_d N (x.1.1, x.2.1) with | some y1 => (match F95_d N (x.1.2.1, x.2.2.1) with | some y2 => (match F95_d N (x.1.2.2.1, x.2.2.2.1) with | some y3 => (match F95_d N (x.1.2.2.2.1, x.2.2.2.2.1) with | some y4 => (match F93_d4 N ((y1, y2, y3, y4, ()), 0) with | some y8 => (match y8 with | .inl z9 => (k z9) | .inr z10 => (k 0)) | none => none) | none => none) | none => none) | none => none) | none => none)
noncomputable abbrev F93_d (N : Nat) (x : RT2 × RT2) : Option (Int) := (zls N).d x
noncomputable def zeF (N : Nat) : List (Nat × LSpec) := [(4, zbO N)]
noncomputable def F93_c : Code := Try.f93.body.getD .skip
theorem F93_par4 (N : Nat) : Par (zbO N).b := by
  intro x α β kn ke kn' ke' r r' h h1 h2
  revert h
  dsimp only [zbO]
  (repeat' (first | (with_reducible refine zg ?_ ?_) | (with_reducible refine zc ?_ ?_) | split)) <;> intro h <;> first | exact h1 _ h | exact h2 _ h | (cases h; done)
theorem zlp (N : Nat) : BdOk (zt Try.prog) (F93_g N) JR N (zeF N) 4 F93_c (zbO N) := fun x α kn ke => by kernel_rfl
theorem zk9 (N : Nat) : LpOk Try.prog JR N (zeF N) 4 (zd 4 F93_c) :=
  zE (zf Try.prog) (zk _) zm JR N (zeF N) 4 F93_c (l := []) (by kernel_rfl) (by kernel_rfl) an (zbO N) rfl (fun s x hc h => by dsimp only [zbO] at h; exact zH hc h (fun _ _ => rfl) rfl rfl) (fun _ => rfl) (zlp N) (F93_par4 N)
theorem F93_parF (N : Nat) : ParF (zls N).t := by
  intro x α β k k' r r' h h1
  revert h
  dsimp only [zls]
  (repeat' (first | (with_reducible refine zg ?_ ?_) | (with_reducible refine zc ?_ ?_) | split)) <;> intro h <;> first | exact h1 _ h | (cases h; done)
theorem F93_text (N : Nat) : TxOk (zt Try.prog) (F93_g N) JR (lam N (zeF N)) Try.f93 (zls N) := fun x => by kernel_rfl
noncomputable def F93_e (N : Nat) : Ent Try.prog := zB (zf Try.prog) (zk _) zm 93 Try.f93 Try.func93 rfl JR (lam N (zeF N)) (zp (l := [(4, zd 4 F93_c)]) (al (zk9 N) an) (by kernel_rfl)) (zls N) (fun _ => ⟨rfl, rfl⟩) (F93_text N) (fun _ _ _ h => zA h (fun _ _ => rfl) (fun _ _ => rfl)) (F93_parF N)
abbrev RK7 : List Ck := [.int .i64, .int .i64, .int .i64, .int .i64, .int .i64, .int .i64, .int .i64, .int .i64, .int .i64, .int .i64]
abbrev RT7 : Type := Int × Int × Int × Int × Int × Int × Int × Int × Int × Int × Unit
def Ren7 (e : RT7) : List AV := enc RK7 e
def JL : Nat → Keep × Keep := anL [(9, ⟨[41, 42], [], [], [], [], [], [], [], false⟩, ⟨[4], [], [], [], [], [], [], [], false⟩)]
noncomputable def F91_g (N : Nat) : GamK := gam (P := Try.prog) [F93_e N]
noncomputable def zcs (N : Nat) : LSpec where
  X := RT7 × Int
  Y := (Int) ⊕ (Unit)
  p := fun s => rdS 56 0 [(41, .agg RK7), (42, .int .i64)] [] s fun ⟨a0, a1, _⟩ _ => (a0, a1)
  st := fun u9 => mkS 56 [(41, (AV.agg (Ren7 u9.1))), (42, (AV.v (.int .i64 u9.2)))] [] (JL 9).1.toks 0
  out := fun y => match y with
    | .inl y => (.ret, mkS 56 [(4, (AV.v (.int .i64 y)))] [] (JL 9).2.toks 0)
    | .inr y => (.exit 0, mkS 56 [] [] (JL 9).2.toks 0)
  sp := fun y α k => match y with
    | .inl y => k (.ret, mkS 56 [(4, (AV.v (.int .i64 y)))] [] (JL 9).2.toks 0)
    | .inr y => k (.exit 0, mkS 56 [] [] (JL 9).2.toks 0)
  spe := fun y α k => by rcases y with _ | _ <;> rfl
  b := fun u9 α kn ke => (match (decide (u9.2 < 5)) with | true => (if 0 ≤ u9.2 ∧ u9.2 < 5 then (match ([(AV.v (.int .i64 u9.1.1)), (AV.v (.int .i64 u9.1.2.1)), (AV.v (.int .i64 u9.1.2.2.1)), (AV.v (.int .i64 u9.1.2.2.2.1)), (AV.v (.int .i64 u9.1.2.2.2.2.1)), (AV.v (.int .i64 u9.1.2.2.2.2.2.1)), (AV.v (.int .i64 u9.1.2.2.2.2.2.2.1)), (AV.v (.int .i64 u9.1.2.2.2.2.2.2.2.1)), (AV.v (.int .i64 u9.1.2.2.2.2.2.2.2.2.1)), (AV.v (.int .i64 u9.1.2.2.2.2.2.2.2.2.2.1))].drop (u9.2.toNat * 2)) with | x2 :: r3 => (match x2 with | .v (.int q5 n4) => (if q5 = .i64 then (match r3 with | x6 :: r7 => (match x6 with | .v (.int q9 n8) => (if q9 = .i64 then (match (decide (n4 < n8)) with | true => (ke (.inl (-1))) | false => (match (decide (n4 > n8)) with | true => (ke (.inl 1)) | false => (kn (u9.1, (i64 (u9.2 + 1)))))) else none) | _ => none) | [] => none) else none) | _ => none) | [] => none) else none) | false => (ke (.inr ())))
noncomputable abbrev F91_d9 (N : Nat) (x : RT7 × Int) : Option ((Int) ⊕ (Unit)) := (zcs N).L N x
noncomputable def zlS (N : Nat) : FSpec where
  X := RT1 × RT1
  Y := Int
  ash := [[none, none, none, none, none, none, none, none, none], [none, none, none, none, none, none, none, none, none]]
  bsh := []
  S := ⟨[[none]], [], [], [], []⟩
  bm := false
  pat := fun a b => rdA [.agg RK1, .agg RK1] [] a b fun ⟨a0, a1, _⟩ _ => (a0, a1)
  args := fun x => [(AV.agg (Ren1 x.1)), (AV.agg (Ren1 x.2))]
  bs := fun x => []
  ret := fun y => ⟨(AV.v (.int .i64 y)), [], none, [], [], []⟩
  t := fun x α k => (match F93_d N ((zd5 x.1), (zd5 x.2)) with | some y1 => (match (y1 != 0) with | true => (k y1) | false => (match F91_d9 N ((x.1.2.2.2.2.1, x.2.2.2.2.2.1, x.1.2.2.2.2.2.1, x.2.2.2.2.2.2.1, x.1.2.2.2.2.2.2.1, x.2.2.2.2.2.2.2.1, x.1.2.2.2.2.2.2.2.1, x.2.2.2.2.2.2.2.2.1, x.1.2.2.2.2.2.2.2.2.1, x.2.2.2.2.2.2.2.2.2.1, ()), 0) with | some y10 => (match y10 with | .inl z11 => (k z11) | .inr z12 => (k 0)) | none => none)) | none => none)
noncomputable abbrev F91_d (N : Nat) (x : RT1 × RT1) : Option (Int) := (zlS N).d x
noncomputable def zeV (N : Nat) : List (Nat × LSpec) := [(9, zcs N)]
noncomputable def F91_c : Code := Try.f91.body.getD .skip
theorem F91_par9 (N : Nat) : Par (zcs N).b := by
  intro x α β kn ke kn' ke' r r' h h1 h2
  revert h
  dsimp only [zcs]
  (repeat' (first | (with_reducible refine zg ?_ ?_) | (with_reducible refine zc ?_ ?_) | split)) <;> intro h <;> first | exact h1 _ h | exact h2 _ h | (cases h; done)
theorem zjL (N : Nat) : BdOk (zt Try.prog) (F91_g N) JL N (zeV N) 9 F91_c (zcs N) := fun x α kn ke => by kernel_rfl
theorem zmU (N : Nat) : LpOk Try.prog JL N (zeV N) 9 (zd 9 F91_c) :=
  zE (zf Try.prog) (zk _) zm JL N (zeV N) 9 F91_c (l := []) (by kernel_rfl) (by kernel_rfl) an (zcs N) rfl (fun s x hc h => by dsimp only [zcs] at h; exact zH hc h (fun _ _ => rfl) rfl rfl) (fun _ => rfl) (zjL N) (F91_par9 N)
theorem F91_parF (N : Nat) : ParF (zlS N).t := by
  intro x α β k k' r r' h h1
  revert h
  dsimp only [zlS]
  (repeat' (first | (with_reducible refine zg ?_ ?_) | (with_reducible refine zc ?_ ?_) | split)) <;> intro h <;> first | exact h1 _ h | (cases h; done)
theorem F91_text (N : Nat) : TxOk (zt Try.prog) (F91_g N) JL (lam N (zeV N)) Try.f91 (zlS N) := fun x => by kernel_rfl
noncomputable def F91_e (N : Nat) : Ent Try.prog := zB (zf Try.prog) (zk _) zm 91 Try.f91 Try.func91 rfl JL (lam N (zeV N)) (zp (l := [(9, zd 9 F91_c)]) (al (zmU N) an) (by kernel_rfl)) (zlS N) (fun _ => ⟨rfl, rfl⟩) (F91_text N) (fun _ _ _ h => zA h (fun _ _ => rfl) (fun _ _ => rfl)) (F91_parF N)
def F85_an : Nat → Keep × Keep := anL []
noncomputable def F85_g (N : Nat) : GamK := gam (P := Try.prog) [F91_e N]
noncomputable def zlU (N : Nat) : FSpec where
  X := RT1 × RT1
  Y := Int
  ash := [[none, none, none, none, none, none, none, none, none], [none, none, none, none, none, none, none, none, none]]
  bsh := []
  S := ⟨[[none]], [], [], [], []⟩
  bm := false
  pat := fun a b => rdA [.agg RK1, .agg RK1] [] a b fun ⟨a0, a1, _⟩ _ => (a0, a1)
  args := fun x => [(AV.agg (Ren1 x.1)), (AV.agg (Ren1 x.2))]
  bs := fun x => []
  ret := fun y => ⟨(AV.v (.int .i64 y)), [], none, [], [], []⟩
  t := fun x α k => (match (decide (x.1.2.2.2.2.1 < x.2.2.2.2.2.1)) with | true => (k (-1)) | false => (match (decide (x.1.2.2.2.2.1 > x.2.2.2.2.2.1)) with | true => (k 1) | false => (match F91_d N x with | some y1 => (k y1) | none => none)))
noncomputable abbrev F85_d (N : Nat) (x : RT1 × RT1) : Option (Int) := (zlU N).d x
theorem F85_parF (N : Nat) : ParF (zlU N).t := by
  intro x α β k k' r r' h h1
  revert h
  dsimp only [zlU]
  (repeat' (first | (with_reducible refine zg ?_ ?_) | (with_reducible refine zc ?_ ?_) | split)) <;> intro h <;> first | exact h1 _ h | (cases h; done)
theorem F85_text (N : Nat) : TxOk (zt Try.prog) (F85_g N) F85_an (lam N []) Try.f85 (zlU N) := fun x => by kernel_rfl
noncomputable def F85_e (N : Nat) : Ent Try.prog := zB (zf Try.prog) (zk _) zm 85 Try.f85 Try.func85 rfl F85_an (lam N []) (zp (l := []) an (by kernel_rfl)) (zlU N) (fun _ => ⟨rfl, rfl⟩) (F85_text N) (fun _ _ _ h => zA h (fun _ _ => rfl) (fun _ _ => rfl)) (F85_parF N)
def za8 : Nat → Keep × Keep := anL [(5, ⟨[2, 3, 4], [], [2, 3], [(0, 9)], [], [], [], [], false⟩, ⟨[2, 3], [], [2, 3], [], [], [], [], [], false⟩)]
noncomputable def F83_g (N : Nat) : GamK := gam (P := Try.prog) [F85_e N]
noncomputable def zb6 (N : Nat) : LSpec where
  X := (List (List AV)) × Int × RT1 × RT1
  Y := (RT1 × RT1)
  p := fun s => rdS 26 0 [(0, .lst 9), (2, .ptr 2 0), (3, .ptr 3 0), (4, .int .i64)] [(2, .row RK1), (3, .row RK1)] s fun ⟨a0, _, _, a1, _⟩ ⟨a2, a3, _⟩ => (a0, a1, a2, a3)
  st := fun u5 => mkS 26 [(0, (AV.list 9 u5.1 none)), (2, (AV.ptr 2 0)), (3, (AV.ptr 3 0)), (4, (AV.v (.int .i64 u5.2.1)))] [(2, (Ren1 u5.2.2.1)), (3, (Ren1 u5.2.2.2))] (za8 5).1.toks 0
  out := fun y => (.exit 0, mkS 26 [(2, (AV.ptr 2 0)), (3, (AV.ptr 3 0))] [(2, (Ren1 y.1)), (3, (Ren1 y.2))] (za8 5).2.toks 0)
  sp := fun y α k => k (.exit 0, mkS 26 [(2, (AV.ptr 2 0)), (3, (AV.ptr 3 0))] [(2, (Ren1 y.1)), (3, (Ren1 y.2))] (za8 5).2.toks 0)
  spe := fun y α k => rfl
  b := fun u5 α kn ke => (match (decide (u5.2.1 < (u5.1.length : Int))) with | true => (if 0 ≤ u5.2.1 then (match u5.1[u5.2.1.toNat]? with | some c8 => (match Rrd1 c8 with | some e9 => (match F85_d N (e9, u5.2.2.2) with | some y10 => (match (decide (y10 < 0)) with | true => (if 0 ≤ u5.2.1 then (match u5.1[u5.2.1.toNat]? with | some c11 => (match Rrd1 c11 with | some e12 => (kn (u5.1, (i64 (u5.2.1 + 1)), u5.2.2.1, e12)) | none => none) | none => none) else none) | false => (kn (u5.1, (i64 (u5.2.1 + 1)), u5.2.2))) | none => none) | none => none) | none => none) else none) | false => (ke u5.2.2))
noncomputable abbrev F83_d5 (N : Nat) (x : (List (List AV)) × Int × RT1 × RT1) : Option ((RT1 × RT1)) := (zb6 N).L N x
noncomputable def zlz (N : Nat) : FSpec where
  X := (List (List AV))
  Y := RT1
  ash := [[some 9]]
  bsh := []
  S := ⟨[[none, none, none, none, none, none, none, none, none]], [], [], [], []⟩
  bm := false
  pat := fun a b => rdA [.lst 9] [] a b fun ⟨a0, _⟩ _ => a0
  args := fun x => [(AV.list 9 x none)]
  bs := fun x => []
  ret := fun y => ⟨(AV.agg (Ren1 y)), [], none, [], [], []⟩
  t := fun x α k => (if 0 ≤ (0 : Int) then (match x[(0 : Int).toNat]? with | some c1 => (match Rrd1 c1 with | some e2 => (match F83_d5 N (x, 1, ((⟨#[]⟩ : ByteArray), (⟨#[]⟩ : ByteArray), (⟨#[]⟩ : ByteArray), (⟨#[]⟩ : ByteArray), 0, 0, 0, 0, 0, ()), e2) with | some y13 => (k y13.2) | none => none) | none => none) | none => none) else none)
noncomputable abbrev F83_d (N : Nat) (x : (List (List AV))) : Option (RT1) := (zlz N).d x
noncomputable def ze8 (N : Nat) : List (Nat × LSpec) := [(5, zb6 N)]
noncomputable def F83_c : Code := Try.f83.body.getD .skip
theorem F83_par5 (N : Nat) : Par (zb6 N).b := by
  intro x α β kn ke kn' ke' r r' h h1 h2
  revert h
  dsimp only [zb6]
  (repeat' (first | (with_reducible refine zg ?_ ?_) | (with_reducible refine zc ?_ ?_) | split)) <;> intro h <;> first | exact h1 _ h | exact h2 _ h | (cases h; done)
theorem zmu (N : Nat) : BdOk (zt Try.prog) (F83_g N) za8 N (ze8 N) 5 F83_c (zb6 N) := fun x α kn ke => by kernel_rfl
theorem zlJ (N : Nat) : LpOk Try.prog za8 N (ze8 N) 5 (zd 5 F83_c) :=
  zE (zf Try.prog) (zk _) zm za8 N (ze8 N) 5 F83_c (l := []) (by kernel_rfl) (by kernel_rfl) an (zb6 N) rfl (fun s x hc h => by dsimp only [zb6] at h; exact zH hc h (fun _ _ => rfl) rfl rfl) (fun _ => rfl) (zmu N) (F83_par5 N)
theorem F83_parF (N : Nat) : ParF (zlz N).t := by
  intro x α β k k' r r' h h1
  revert h
  dsimp only [zlz]
  (repeat' (first | (with_reducible refine zg ?_ ?_) | (with_reducible refine zc ?_ ?_) | split)) <;> intro h <;> first | exact h1 _ h | (cases h; done)
theorem F83_text (N : Nat) : TxOk (zt Try.prog) (F83_g N) za8 (lam N (ze8 N)) Try.f83 (zlz N) := fun x => by kernel_rfl
noncomputable def F83_e (N : Nat) : Ent Try.prog := zB (zf Try.prog) (zk _) zm 83 Try.f83 Try.func83 rfl za8 (lam N (ze8 N)) (zp (l := [(5, zd 5 F83_c)]) (al (zlJ N) an) (by kernel_rfl)) (zlz N) (fun _ => ⟨rfl, rfl⟩) (F83_text N) (fun _ _ _ h => zA h (fun _ _ => rfl) (fun _ _ => rfl)) (F83_parF N)
def jO : Nat → Keep × Keep := anF [(5, ⟨[4], [], [], [(0, 9)], [], [(3, 9)], [], [], false⟩, ⟨[], [], [], [], [], [(3, 9)], [], [], false⟩), (14, ⟨[3, 4, 5], [], [1000003], [(0, 9)], [], [], [], [1000003], false⟩, ⟨[3, 4, 5], [], [1000003], [(0, 9)], [], [], [], [1000003], false⟩)] [(100012, ([3], []))]
noncomputable def F84_g (N : Nat) : GamK := gam (P := Try.prog) [F91_e N]
noncomputable def J3 (N : Nat) : LSpec where
  X := (List (List AV)) × Nat × Int × Int × (List AV)
  Y := ((List (List AV)) × Nat × Int × Int × (List AV))
  p := fun s => rdS 68 0 [(0, .lst 9), (3, .vs0 1000003 9), (4, .int .i64), (5, .int .i64)] [(1000003, .tt)] s fun ⟨a0, a1, a2, a3, _⟩ ⟨a4, _⟩ => (a0, a1, a2, a3, a4)
  st := fun u14 => mkS 68 [(0, (AV.list 9 u14.1 none)), (3, (AV.vs 1000003 0 u14.2.1 9)), (4, (AV.v (.int .i64 u14.2.2.1))), (5, (AV.v (.int .i64 u14.2.2.2.1)))] [(1000003, u14.2.2.2.2)] (jO 14).1.toks 0
  out := fun y => (.exit 2, mkS 68 [(0, (AV.list 9 y.1 none)), (3, (AV.vs 1000003 0 y.2.1 9)), (4, (AV.v (.int .i64 y.2.2.1))), (5, (AV.v (.int .i64 y.2.2.2.1)))] [(1000003, y.2.2.2.2)] (jO 14).2.toks 0)
  sp := fun y α k => k (.exit 2, mkS 68 [(0, (AV.list 9 y.1 none)), (3, (AV.vs 1000003 0 y.2.1 9)), (4, (AV.v (.int .i64 y.2.2.1))), (5, (AV.v (.int .i64 y.2.2.2.1)))] [(1000003, y.2.2.2.2)] (jO 14).2.toks 0)
  spe := fun y α k => rfl
  b := fun u14 α kn ke => (match (decide (u14.2.2.2.1 > 0)) with | true => (if 0 ≤ (i64 (u14.2.2.2.1 - 1)) ∧ (i64 (u14.2.2.2.1 - 1)) < (u14.2.1 : Int) then (match Rrd1 (u14.2.2.2.2.drop ((0 + (i64 (u14.2.2.2.1 - 1)).toNat) * 9)) with | some e5 => (if 0 ≤ u14.2.2.1 then (match u14.1[u14.2.2.1.toNat]? with | some c6 => (match Rrd1 c6 with | some e7 => (match F91_d N (e5, e7) with | some y8 => (match (decide (y8 > 0)) with | true => (kn (u14.1, u14.2.1, u14.2.2.1, (i64 (u14.2.2.2.1 - 1)), (u14.2.2.2.2.map dat0))) | false => (ke (u14.1, u14.2.1, u14.2.2.1, u14.2.2.2.1, (u14.2.2.2.2.map dat0)))) | none => none) | none => none) | none => none) else none) | none => none) else none) | false => (ke (u14.1, u14.2.1, u14.2.2.1, u14.2.2.2.1, (u14.2.2.2.2.map dat0))))
noncomputable abbrev F84_d14 (N : Nat) (x : (List (List AV)) × Nat × Int × Int × (List AV)) : Option (((List (List AV)) × Nat × Int × Int × (List AV))) := (J3 N).L N x
noncomputable def zbQ (N : Nat) : LSpec where
  X := Nat × (List (List AV)) × Int × (List AV)
  Y := (Nat × (List AV))
  p := fun s => rdS 68 0 [(3, .vs0 1000003 9), (0, .lst 9), (4, .int .i64)] [(1000003, .tt)] s fun ⟨a0, a1, a2, _⟩ ⟨a3, _⟩ => (a0, a1, a2, a3)
  st := fun u5 => mkS 68 [(3, (AV.vs 1000003 0 u5.1 9)), (0, (AV.list 9 u5.2.1 none)), (4, (AV.v (.int .i64 u5.2.2.1)))] [(1000003, u5.2.2.2)] (jO 5).1.toks 0
  out := fun y => (.exit 0, mkS 68 [(3, (AV.vs 1000003 0 y.1 9))] [(1000003, y.2)] (jO 5).2.toks 0)
  sp := fun y α k => k (.exit 0, mkS 68 [(3, (AV.vs 1000003 0 y.1 9))] [(1000003, y.2)] (jO 5).2.toks 0)
  spe := fun y α k => rfl
  b := fun u5 α kn ke => (match (decide (u5.2.2.1 < (u5.2.1.length : Int))) with | true => (match F84_d14 N (u5.2.1, u5.1, u5.2.2.1, ((u5.1 : Nat) : Int), (u5.2.2.2.map dat0)) with | some y9 => (match (decide (y9.2.2.2.1 > 0)) with | true => (if 0 ≤ (i64 (y9.2.2.2.1 - 1)) ∧ (i64 (y9.2.2.2.1 - 1)) < (y9.2.1 : Int) then (match Rrd1 (y9.2.2.2.2.drop ((0 + (i64 (y9.2.2.2.1 - 1)).toNat) * 9)) with | some e10 => (if 0 ≤ y9.2.2.1 then (match y9.1[y9.2.2.1.toNat]? with | some c11 => (match Rrd1 c11 with | some e12 => (match (((e10.1 == e12.1) && ((e10.2.1 == e12.2.1) && ((e10.2.2.1 == e12.2.2.1) && ((e10.2.2.2.1 == e12.2.2.2.1) && true)))) && ((e10.2.2.2.2.1 == e12.2.2.2.2.1) && ((e10.2.2.2.2.2.1 == e12.2.2.2.2.2.1) && ((e10.2.2.2.2.2.2.1 == e12.2.2.2.2.2.2.1) && ((e10.2.2.2.2.2.2.2.1 == e12.2.2.2.2.2.2.2.1) && ((e10.2.2.2.2.2.2.2.2.1 == e12.2.2.2.2.2.2.2.2.1) && true)))))) with | true => (kn (y9.2.1, y9.1, (i64 (y9.2.2.1 + 1)), (y9.2.2.2.2.map dat0))) | false => (if 0 ≤ y9.2.2.1 then (match y9.1[y9.2.2.1.toNat]? with | some c13 => (match Rrd1 c13 with | some e14 => (if y9.2.1 * 9 ≤ y9.2.2.2.2.length ∧ (y9.2.1 + [(Ren1 e14)].length) * 104 ≤ zl then (if 0 ≤ (i64 (y9.2.2.2.1 + 1)) ∧ (i64 (y9.2.2.2.1 + 1)) ≤ (((y9.2.1 + [(Ren1 e14)].length) : Nat) : Int) then (if 0 ≤ y9.2.2.2.1 ∧ y9.2.2.2.1 ≤ (((y9.2.1 + [(Ren1 e14)].length) : Nat) : Int) then (if ((0 + y9.2.2.2.1.toNat) + ((y9.2.1 + [(Ren1 e14)].length) - y9.2.2.2.1.toNat)) * 9 ≤ (y9.2.2.2.2.take (y9.2.1 * 9) ++ [(Ren1 e14)].flatten).length then (if ((0 + (i64 (y9.2.2.2.1 + 1)).toNat) + ((y9.2.1 + [(Ren1 e14)].length) - (i64 (y9.2.2.2.1 + 1)).toNat)) * 9 ≤ (y9.2.2.2.2.take (y9.2.1 * 9) ++ [(Ren1 e14)].flatten).length then (if 0 ≤ y9.2.2.1 then (match y9.1[y9.2.2.1.toNat]? with | some c15 => (match Rrd1 c15 with | some e16 => (if 0 ≤ y9.2.2.2.1 ∧ y9.2.2.2.1 < (((y9.2.1 + [(Ren1 e14)].length) : Nat) : Int) then (if ((0 + y9.2.2.2.1.toNat) * 9) + 9 ≤ (splice (y9.2.2.2.2.take (y9.2.1 * 9) ++ [(Ren1 e14)].flatten) ((0 + (i64 (y9.2.2.2.1 + 1)).toNat) * 9) (((y9.2.2.2.2.take (y9.2.1 * 9) ++ [(Ren1 e14)].flatten).drop ((0 + y9.2.2.2.1.toNat) * 9)).take ((Nat.min ((y9.2.1 + [(Ren1 e14)].length) - y9.2.2.2.1.toNat) ((y9.2.1 + [(Ren1 e14)].length) - (i64 (y9.2.2.2.1 + 1)).toNat)) * 9))).length then (kn ((y9.2.1 + [(Ren1 e14)].length), y9.1, (i64 (y9.2.2.1 + 1)), ((splice (splice (y9.2.2.2.2.take (y9.2.1 * 9) ++ [(Ren1 e14)].flatten) ((0 + (i64 (y9.2.2.2.1 + 1)).toNat) * 9) (((y9.2.2.2.2.take (y9.2.1 * 9) ++ [(Ren1 e14)].flatten).drop ((0 + y9.2.2.2.1.toNat) * 9)).take ((Nat.min ((y9.2.1 + [(Ren1 e14)].length) - y9.2.2.2.1.toNat) ((y9.2.1 + [(Ren1 e14)].length) - (i64 (y9.2.2.2.1 + 1)).toNat)) * 9))) ((0 + y9.2.2.2.1.toNat) * 9) (Ren1 e16)).map dat0))) else none) else none) | none => none) | none => none) else none) else none) else none) else none) else none) else none) | none => none) | none => none) else none)) | none => none) | none => none) else none) | none => none) else none) | false => (if 0 ≤ y9.2.2.1 then (match y9.1[y9.2.2.1.toNat]? with | some c17 => (match Rrd1 c17 with | some e18 => (if y9.2.1 * 9 ≤ y9.2.2.2.2.length ∧ (y9.2.1 + [(Ren1 e18)].length) * 104 ≤ zl then (if 0 ≤ (i64 (y9.2.2.2.1 + 1)) ∧ (i64 (y9.2.2.2.1 + 1)) ≤ (((y9.2.1 + [(Ren1 e18)].length) : Nat) : Int) then (if 0 ≤ y9.2.2.2.1 ∧ y9.2.2.2.1 ≤ (((y9.2.1 + [(Ren1 e18)].length) : Nat) : Int) then (if ((0 + y9.2.2.2.1.toNat) + ((y9.2.1 + [(Ren1 e18)].length) - y9.2.2.2.1.toNat)) * 9 ≤ (y9.2.2.2.2.take (y9.2.1 * 9) ++ [(Ren1 e18)].flatten).length then (if ((0 + (i64 (y9.2.2.2.1 + 1)).toNat) + ((y9.2.1 + [(Ren1 e18)].length) - (i64 (y9.2.2.2.1 + 1)).toNat)) * 9 ≤ (y9.2.2.2.2.take (y9.2.1 * 9) ++ [(Ren1 e18)].flatten).length then (if 0 ≤ y9.2.2.1 then (match y9.1[y9.2.2.1.toNat]? with | some c19 => (match Rrd1 c19 with | some e20 => (if 0 ≤ y9.2.2.2.1 ∧ y9.2.2.2.1 < (((y9.2.1 + [(Ren1 e18)].length) : Nat) : Int) then (if ((0 + y9.2.2.2.1.toNat) * 9) + 9 ≤ (splice (y9.2.2.2.2.take (y9.2.1 * 9) ++ [(Ren1 e18)].flatten) ((0 + (i64 (y9.2.2.2.1 + 1)).toNat) * 9) (((y9.2.2.2.2.take (y9.2.1 * 9) ++ [(Ren1 e18)].flatten).drop ((0 + y9.2.2.2.1.toNat) * 9)).take ((Nat.min ((y9.2.1 + [(Ren1 e18)].length) - y9.2.2.2.1.toNat) ((y9.2.1 + [(Ren1 e18)].length) - (i64 (y9.2.2.2.1 + 1)).toNat)) * 9))).length then (kn ((y9.2.1 + [(Ren1 e18)].length), y9.1, (i64 (y9.2.2.1 + 1)), ((splice (splice (y9.2.2.2.2.take (y9.2.1 * 9) ++ [(Ren1 e18)].flatten) ((0 + (i64 (y9.2.2.2.1 + 1)).toNat) * 9) (((y9.2.2.2.2.take (y9.2.1 * 9) ++ [(Ren1 e18)].flatten).drop ((0 + y9.2.2.2.1.toNat) * 9)).take ((Nat.min ((y9.2.1 + [(Ren1 e18)].length) - y9.2.2.2.1.toNat) ((y9.2.1 + [(Ren1 e18)].length) - (i64 (y9.2.2.2.1 + 1)).toNat)) * 9))) ((0 + y9.2.2.2.1.toNat) * 9) (Ren1 e20)).map dat0))) else none) else none) | none => none) | none => none) else none) else none) else none) else none) else none) else none) | none => none) | none => none) else none)) | none => none) | false => (ke (u5.1, (u5.2.2.2.map dat0))))
noncomputable abbrev F84_d5 (N : Nat) (x : Nat × (List (List AV)) × Int × (List AV)) : Option ((Nat × (List AV))) := (zbQ N).L N x
noncomputable def zmc (N : Nat) : FSpec where
  X := (List (List AV))
  Y := (List (List AV))
  ash := [[some 9]]
  bsh := []
  S := ⟨[[some 2000009]], [], [], [], []⟩
  bm := false
  pat := fun a b => rdA [.lst 9] [] a b fun ⟨a0, _⟩ _ => a0
  args := fun x => [(AV.list 9 x none)]
  bs := fun x => []
  ret := fun y => ⟨(AV.list 9 y (some 2560000000)), [], none, [], [2560000000], []⟩
  t := fun x α k => (match F84_d5 N (0, x, 0, ([] : List AV)) with | some y21 => (if y21.1 * 9 ≤ y21.2.length then (k (zO (y21.2.take (y21.1 * 9)) 9 y21.1)) else none) | none => none)
noncomputable abbrev F84_d (N : Nat) (x : (List (List AV))) : Option ((List (List AV))) := (zmc N).d x
noncomputable def zaM (N : Nat) : List (Nat × LSpec) := [(5, zbQ N), (14, J3 N)]
noncomputable def zd8 : Code := Try.f84.body.getD .skip
theorem zll (N : Nat) : Par (J3 N).b := by
  intro x α β kn ke kn' ke' r r' h h1 h2
  revert h
  dsimp only [J3]
  (repeat' (first | (with_reducible refine zg ?_ ?_) | (with_reducible refine zc ?_ ?_) | split)) <;> intro h <;> first | exact h1 _ h | exact h2 _ h | (cases h; done)
theorem ziH (N : Nat) : BdOk (tabB Try.prog [51]) (F84_g N) jO N (zaM N) 14 zd8 (J3 N) := fun x α kn ke => by kernel_rfl
theorem zdq (N : Nat) : LpOk Try.prog jO N (zaM N) 14 (zd 14 zd8) :=
  zE (zL Try.prog [51]) (zk _) zm jO N (zaM N) 14 zd8 (l := []) (by kernel_rfl) (by kernel_rfl) an (J3 N) rfl (fun s x hc h => by dsimp only [J3] at h; exact zH hc h (fun _ _ => rfl) rfl rfl) (fun _ => rfl) (ziH N) (zll N)
theorem F84_par5 (N : Nat) : Par (zbQ N).b := by
  intro x α β kn ke kn' ke' r r' h h1 h2
  revert h
  dsimp only [zbQ]
  (repeat' (first | (with_reducible refine zg ?_ ?_) | (with_reducible refine zc ?_ ?_) | split)) <;> intro h <;> first | exact h1 _ h | exact h2 _ h | (cases h; done)
theorem zkh (N : Nat) : BdOk (tabB Try.prog [51]) (F84_g N) jO N (zaM N) 5 zd8 (zbQ N) := fun x α kn ke => by kernel_rfl
theorem zlN (N : Nat) : LpOk Try.prog jO N (zaM N) 5 (zd 5 zd8) :=
  zE (zL Try.prog [51]) (zk _) zm jO N (zaM N) 5 zd8 (l := [(14, zd 14 zd8)]) (by kernel_rfl) (by kernel_rfl) (al (zdq N) an) (zbQ N) rfl (fun s x hc h => by dsimp only [zbQ] at h; exact zH hc h (fun _ _ => rfl) rfl rfl) (fun _ => rfl) (zkh N) (F84_par5 N)
theorem F84_parF (N : Nat) : ParF (zmc N).t := by
  intro x α β k k' r r' h h1
  revert h
  dsimp only [zmc]
  (repeat' (first | (with_reducible refine zg ?_ ?_) | (with_reducible refine zc ?_ ?_) | split)) <;> intro h <;> first | exact h1 _ h | (cases h; done)
theorem F84_text (N : Nat) : TxOk (tabB Try.prog [51]) (F84_g N) jO (lam N (zaM N)) Try.f84 (zmc N) := fun x => by kernel_rfl
noncomputable def F84_e (N : Nat) : Ent Try.prog := zB (zL Try.prog [51]) (zk _) zm 84 Try.f84 Try.func84 rfl jO (lam N (zaM N)) (zp (l := [(5, zd 5 zd8), (14, zd 14 zd8)]) (al (zlN N) (al (zdq N) an)) (by kernel_rfl)) (zmc N) (fun _ => ⟨rfl, rfl⟩) (F84_text N) (fun _ _ _ h => zA h (fun _ _ => rfl) (fun _ _ => rfl)) (F84_parF N)
def JP : Nat → Keep × Keep := anL [(8, ⟨[5], [], [], [(0, 9), (1, 9)], [], [], [], [], false⟩, ⟨[4], [], [], [], [], [], [], [], false⟩)]
noncomputable def F64_g (N : Nat) : GamK := gam (P := Try.prog) []
noncomputable def jz (N : Nat) : LSpec where
  X := (List (List AV)) × (List (List AV)) × Int
  Y := (Bool) ⊕ (Unit)
  p := fun s => rdS 26 0 [(0, .lst 9), (1, .lst 9), (5, .int .i64)] [] s fun ⟨a0, a1, a2, _⟩ _ => (a0, a1, a2)
  st := fun u8 => mkS 26 [(0, (AV.list 9 u8.1 none)), (1, (AV.list 9 u8.2.1 none)), (5, (AV.v (.int .i64 u8.2.2)))] [] (JP 8).1.toks 0
  out := fun y => match y with
    | .inl y => (.ret, mkS 26 [(4, (AV.v (.bool y)))] [] (JP 8).2.toks 0)
    | .inr y => (.exit 0, mkS 26 [] [] (JP 8).2.toks 0)
  sp := fun y α k => match y with
    | .inl y => k (.ret, mkS 26 [(4, (AV.v (.bool y)))] [] (JP 8).2.toks 0)
    | .inr y => k (.exit 0, mkS 26 [] [] (JP 8).2.toks 0)
  spe := fun y α k => by rcases y with _ | _ <;> rfl
  b := fun u8 α kn ke => (match (decide (u8.2.2 < (u8.1.length : Int))) with | true => (if 0 ≤ u8.2.2 then (match u8.1[u8.2.2.toNat]? with | some c1 => (match Rrd1 c1 with | some e2 => (if 0 ≤ u8.2.2 then (match u8.2.1[u8.2.2.toNat]? with | some c3 => (match Rrd1 c3 with | some e4 => (match (!(((e2.1 == e4.1) && ((e2.2.1 == e4.2.1) && ((e2.2.2.1 == e4.2.2.1) && ((e2.2.2.2.1 == e4.2.2.2.1) && true)))) && ((e2.2.2.2.2.1 == e4.2.2.2.2.1) && ((e2.2.2.2.2.2.1 == e4.2.2.2.2.2.1) && ((e2.2.2.2.2.2.2.1 == e4.2.2.2.2.2.2.1) && ((e2.2.2.2.2.2.2.2.1 == e4.2.2.2.2.2.2.2.1) && ((e2.2.2.2.2.2.2.2.2.1 == e4.2.2.2.2.2.2.2.2.1) && true))))))) with | true => (ke (.inl false)) | false => (kn (u8.1, u8.2.1, (i64 (u8.2.2 + 1))))) | none => none) | none => none) else none) | none => none) | none => none) else none) | false => (ke (.inr ())))
noncomputable abbrev F64_d8 (N : Nat) (x : (List (List AV)) × (List (List AV)) × Int) : Option ((Bool) ⊕ (Unit)) := (jz N).L N x
noncomputable def ziV (N : Nat) : FSpec where
  X := (List (List AV)) × (List (List AV))
  Y := Bool
  ash := [[some 9], [some 9]]
  bsh := []
  S := ⟨[[none]], [], [], [], []⟩
  bm := false
  pat := fun a b => rdA [.lst 9, .lst 9] [] a b fun ⟨a0, a1, _⟩ _ => (a0, a1)
  args := fun x => [(AV.list 9 x.1 none), (AV.list 9 x.2 none)]
  bs := fun x => []
  ret := fun y => ⟨(AV.v (.bool y)), [], none, [], [], []⟩
  t := fun x α k => (match ((x.1.length : Int) != (x.2.length : Int)) with | true => (k false) | false => (match F64_d8 N (x.1, x.2, 0) with | some y5 => (match y5 with | .inl z6 => (k z6) | .inr z7 => (k true)) | none => none))
noncomputable abbrev zkM (N : Nat) (x : (List (List AV)) × (List (List AV))) : Option (Bool) := (ziV N).d x
noncomputable def zeI (N : Nat) : List (Nat × LSpec) := [(8, jz N)]
noncomputable def F64_c : Code := Try.f64.body.getD .skip
theorem F64_par8 (N : Nat) : Par (jz N).b := by
  intro x α β kn ke kn' ke' r r' h h1 h2
  revert h
  dsimp only [jz]
  (repeat' (first | (with_reducible refine zg ?_ ?_) | (with_reducible refine zc ?_ ?_) | split)) <;> intro h <;> first | exact h1 _ h | exact h2 _ h | (cases h; done)
theorem zkt (N : Nat) : BdOk (zt Try.prog) (F64_g N) JP N (zeI N) 8 F64_c (jz N) := fun x α kn ke => by kernel_rfl
theorem zle (N : Nat) : LpOk Try.prog JP N (zeI N) 8 (zd 8 F64_c) :=
  zE (zf Try.prog) (zk _) zm JP N (zeI N) 8 F64_c (l := []) (by kernel_rfl) (by kernel_rfl) an (jz N) rfl (fun s x hc h => by dsimp only [jz] at h; exact zH hc h (fun _ _ => rfl) rfl rfl) (fun _ => rfl) (zkt N) (F64_par8 N)
theorem F64_parF (N : Nat) : ParF (ziV N).t := by
  intro x α β k k' r r' h h1
  revert h
  dsimp only [ziV]
  (repeat' (first | (with_reducible refine zg ?_ ?_) | (with_reducible refine zc ?_ ?_) | split)) <;> intro h <;> first | exact h1 _ h | (cases h; done)
theorem F64_text (N : Nat) : TxOk (zt Try.prog) (F64_g N) JP (lam N (zeI N)) Try.f64 (ziV N) := fun x => by kernel_rfl
noncomputable def F64_e (N : Nat) : Ent Try.prog := zB (zf Try.prog) (zk _) zm 64 Try.f64 Try.func64 rfl JP (lam N (zeI N)) (zp (l := [(8, zd 8 F64_c)]) (al (zle N) an) (by kernel_rfl)) (ziV N) (fun _ => ⟨rfl, rfl⟩) (F64_text N) (fun _ _ _ h => zA h (fun _ _ => rfl) (fun _ _ => rfl)) (F64_parF N)
def Z8 : Nat → Keep × Keep := anL [(4, ⟨[5], [], [], [(0, 9), (1, 9)], [], [], [], [], false⟩, ⟨[4], [], [], [], [], [], [], [], false⟩), (12, ⟨[5, 6], [], [], [(0, 9), (1, 9)], [], [], [], [], false⟩, ⟨[4, 5], [], [], [(0, 9), (1, 9)], [], [], [], [], false⟩)]
noncomputable def F86_g (N : Nat) : GamK := gam (P := Try.prog) []
noncomputable def Zk (N : Nat) : LSpec where
  X := (List (List AV)) × (List (List AV)) × Int × Int
  Y := ((List (List AV)) × (List (List AV)) × Bool × Int) ⊕ ((List (List AV)) × (List (List AV)) × Int)
  p := fun s => rdS 28 0 [(0, .lst 9), (1, .lst 9), (5, .int .i64), (6, .int .i64)] [] s fun ⟨a0, a1, a2, a3, _⟩ _ => (a0, a1, a2, a3)
  st := fun u12 => mkS 28 [(0, (AV.list 9 u12.1 none)), (1, (AV.list 9 u12.2.1 none)), (5, (AV.v (.int .i64 u12.2.2.1))), (6, (AV.v (.int .i64 u12.2.2.2)))] [] (Z8 12).1.toks 0
  out := fun y => match y with
    | .inl y => (.ret, mkS 28 [(0, (AV.list 9 y.1 none)), (1, (AV.list 9 y.2.1 none)), (4, (AV.v (.bool y.2.2.1))), (5, (AV.v (.int .i64 y.2.2.2)))] [] (Z8 12).2.toks 0)
    | .inr y => (.exit 2, mkS 28 [(0, (AV.list 9 y.1 none)), (1, (AV.list 9 y.2.1 none)), (5, (AV.v (.int .i64 y.2.2)))] [] (Z8 12).2.toks 0)
  sp := fun y α k => match y with
    | .inl y => k (.ret, mkS 28 [(0, (AV.list 9 y.1 none)), (1, (AV.list 9 y.2.1 none)), (4, (AV.v (.bool y.2.2.1))), (5, (AV.v (.int .i64 y.2.2.2)))] [] (Z8 12).2.toks 0)
    | .inr y => k (.exit 2, mkS 28 [(0, (AV.list 9 y.1 none)), (1, (AV.list 9 y.2.1 none)), (5, (AV.v (.int .i64 y.2.2)))] [] (Z8 12).2.toks 0)
  spe := fun y α k => by rcases y with _ | _ <;> rfl
  b := fun u12 α kn ke => (match (decide (u12.2.2.2 < (u12.2.1.length : Int))) with | true => (if 0 ≤ u12.2.2.1 then (match u12.1[u12.2.2.1.toNat]? with | some c1 => (match Rrd1 c1 with | some e2 => (if 0 ≤ u12.2.2.2 then (match u12.2.1[u12.2.2.2.toNat]? with | some c3 => (match Rrd1 c3 with | some e4 => (match (((e2.1 == e4.1) && ((e2.2.1 == e4.2.1) && ((e2.2.2.1 == e4.2.2.1) && ((e2.2.2.2.1 == e4.2.2.2.1) && true)))) && ((e2.2.2.2.2.1 == e4.2.2.2.2.1) && ((e2.2.2.2.2.2.1 == e4.2.2.2.2.2.1) && ((e2.2.2.2.2.2.2.1 == e4.2.2.2.2.2.2.1) && ((e2.2.2.2.2.2.2.2.1 == e4.2.2.2.2.2.2.2.1) && ((e2.2.2.2.2.2.2.2.2.1 == e4.2.2.2.2.2.2.2.2.1) && true)))))) with | true => (ke (.inl (u12.1, u12.2.1, true, u12.2.2.1))) | false => (kn (u12.1, u12.2.1, u12.2.2.1, (i64 (u12.2.2.2 + 1))))) | none => none) | none => none) else none) | none => none) | none => none) else none) | false => (ke (.inr (u12.1, u12.2.1, u12.2.2.1))))
noncomputable abbrev zfZ (N : Nat) (x : (List (List AV)) × (List (List AV)) × Int × Int) : Option (((List (List AV)) × (List (List AV)) × Bool × Int) ⊕ ((List (List AV)) × (List (List AV)) × Int)) := (Zk N).L N x
noncomputable def Z2 (N : Nat) : LSpec where
  X := (List (List AV)) × (List (List AV)) × Int
  Y := (Bool) ⊕ (Unit)
  p := fun s => rdS 28 0 [(0, .lst 9), (1, .lst 9), (5, .int .i64)] [] s fun ⟨a0, a1, a2, _⟩ _ => (a0, a1, a2)
  st := fun u4 => mkS 28 [(0, (AV.list 9 u4.1 none)), (1, (AV.list 9 u4.2.1 none)), (5, (AV.v (.int .i64 u4.2.2)))] [] (Z8 4).1.toks 0
  out := fun y => match y with
    | .inl y => (.ret, mkS 28 [(4, (AV.v (.bool y)))] [] (Z8 4).2.toks 0)
    | .inr y => (.exit 0, mkS 28 [] [] (Z8 4).2.toks 0)
  sp := fun y α k => match y with
    | .inl y => k (.ret, mkS 28 [(4, (AV.v (.bool y)))] [] (Z8 4).2.toks 0)
    | .inr y => k (.exit 0, mkS 28 [] [] (Z8 4).2.toks 0)
  spe := fun y α k => by rcases y with _ | _ <;> rfl
  b := fun u4 α kn ke => (match (decide (u4.2.2 < (u4.1.length : Int))) with | true => (match zfZ N (u4.1, u4.2.1, u4.2.2, 0) with | some y5 => (match y5 with | .inl z6 => (ke (.inl z6.2.2.1)) | .inr z7 => (kn (z7.1, z7.2.1, (i64 (z7.2.2 + 1))))) | none => none) | false => (ke (.inr ())))
noncomputable abbrev F86_d4 (N : Nat) (x : (List (List AV)) × (List (List AV)) × Int) : Option ((Bool) ⊕ (Unit)) := (Z2 N).L N x
noncomputable def ziB (N : Nat) : FSpec where
  X := (List (List AV)) × (List (List AV))
  Y := Bool
  ash := [[some 9], [some 9]]
  bsh := []
  S := ⟨[[none]], [], [], [], []⟩
  bm := false
  pat := fun a b => rdA [.lst 9, .lst 9] [] a b fun ⟨a0, a1, _⟩ _ => (a0, a1)
  args := fun x => [(AV.list 9 x.1 none), (AV.list 9 x.2 none)]
  bs := fun x => []
  ret := fun y => ⟨(AV.v (.bool y)), [], none, [], [], []⟩
  t := fun x α k => (match F86_d4 N (x.1, x.2, 0) with | some y8 => (match y8 with | .inl z9 => (k z9) | .inr z10 => (k false)) | none => none)
noncomputable abbrev F86_d (N : Nat) (x : (List (List AV)) × (List (List AV))) : Option (Bool) := (ziB N).d x
noncomputable def zaU (N : Nat) : List (Nat × LSpec) := [(4, Z2 N), (12, Zk N)]
noncomputable def zdL : Code := Try.f86.body.getD .skip
theorem zkW (N : Nat) : Par (Zk N).b := by
  intro x α β kn ke kn' ke' r r' h h1 h2
  revert h
  dsimp only [Zk]
  (repeat' (first | (with_reducible refine zg ?_ ?_) | (with_reducible refine zc ?_ ?_) | split)) <;> intro h <;> first | exact h1 _ h | exact h2 _ h | (cases h; done)
theorem ziF (N : Nat) : BdOk (zt Try.prog) (F86_g N) Z8 N (zaU N) 12 zdL (Zk N) := fun x α kn ke => by kernel_rfl
theorem zdo (N : Nat) : LpOk Try.prog Z8 N (zaU N) 12 (zd 12 zdL) :=
  zE (zf Try.prog) (zk _) zm Z8 N (zaU N) 12 zdL (l := []) (by kernel_rfl) (by kernel_rfl) an (Zk N) rfl (fun s x hc h => by dsimp only [Zk] at h; exact zH hc h (fun _ _ => rfl) rfl rfl) (fun _ => rfl) (ziF N) (zkW N)
theorem F86_par4 (N : Nat) : Par (Z2 N).b := by
  intro x α β kn ke kn' ke' r r' h h1 h2
  revert h
  dsimp only [Z2]
  (repeat' (first | (with_reducible refine zg ?_ ?_) | (with_reducible refine zc ?_ ?_) | split)) <;> intro h <;> first | exact h1 _ h | exact h2 _ h | (cases h; done)
theorem zkV (N : Nat) : BdOk (zt Try.prog) (F86_g N) Z8 N (zaU N) 4 zdL (Z2 N) := fun x α kn ke => by kernel_rfl
theorem zlt (N : Nat) : LpOk Try.prog Z8 N (zaU N) 4 (zd 4 zdL) :=
  zE (zf Try.prog) (zk _) zm Z8 N (zaU N) 4 zdL (l := [(12, zd 12 zdL)]) (by kernel_rfl) (by kernel_rfl) (al (zdo N) an) (Z2 N) rfl (fun s x hc h => by dsimp only [Z2] at h; exact zH hc h (fun _ _ => rfl) rfl rfl) (fun _ => rfl) (zkV N) (F86_par4 N)
theorem F86_parF (N : Nat) : ParF (ziB N).t := by
  intro x α β k k' r r' h h1
  revert h
  dsimp only [ziB]
  (repeat' (first | (with_reducible refine zg ?_ ?_) | (with_reducible refine zc ?_ ?_) | split)) <;> intro h <;> first | exact h1 _ h | (cases h; done)
theorem F86_text (N : Nat) : TxOk (zt Try.prog) (F86_g N) Z8 (lam N (zaU N)) Try.f86 (ziB N) := fun x => by kernel_rfl
noncomputable def F86_e (N : Nat) : Ent Try.prog := zB (zf Try.prog) (zk _) zm 86 Try.f86 Try.func86 rfl Z8 (lam N (zaU N)) (zp (l := [(4, zd 4 zdL), (12, zd 12 zdL)]) (al (zlt N) (al (zdo N) an)) (by kernel_rfl)) (ziB N) (fun _ => ⟨rfl, rfl⟩) (F86_text N) (fun _ _ _ h => zA h (fun _ _ => rfl) (fun _ _ => rfl)) (F86_parF N)
def Z6 : Nat → Keep × Keep := anL [(4, ⟨[3], [], [], [(0, 25)], [], [], [], [], false⟩, ⟨[2], [], [], [], [], [], [], [], false⟩), (17, ⟨[3, 5], [], [], [(0, 25), (4, 9)], [], [], [], [], false⟩, ⟨[2, 3], [], [], [(0, 25)], [], [], [], [], false⟩)]
noncomputable def F73_g (N : Nat) : GamK := gam (P := Try.prog) [F83_e N, F84_e N, F64_e N, F85_e N, F86_e N]
noncomputable def ZD (N : Nat) : LSpec where
  X := (List (List AV)) × (List (List AV)) × Int × Int
  Y := ((List (List AV)) × Bool × Int) ⊕ ((List (List AV)) × Int)
  p := fun s => rdS 70 0 [(0, .lst 25), (4, .lst 9), (3, .int .i64), (5, .int .i64)] [] s fun ⟨a0, a1, a2, a3, _⟩ _ => (a0, a1, a2, a3)
  st := fun u17 => mkS 70 [(0, (AV.list 25 u17.1 none)), (4, (AV.list 9 u17.2.1 none)), (3, (AV.v (.int .i64 u17.2.2.1))), (5, (AV.v (.int .i64 u17.2.2.2)))] [] (Z6 17).1.toks 0
  out := fun y => match y with
    | .inl y => (.ret, mkS 70 [(0, (AV.list 25 y.1 none)), (2, (AV.v (.bool y.2.1))), (3, (AV.v (.int .i64 y.2.2)))] [] (Z6 17).2.toks 0)
    | .inr y => (.exit 2, mkS 70 [(0, (AV.list 25 y.1 none)), (3, (AV.v (.int .i64 y.2)))] [] (Z6 17).2.toks 0)
  sp := fun y α k => match y with
    | .inl y => k (.ret, mkS 70 [(0, (AV.list 25 y.1 none)), (2, (AV.v (.bool y.2.1))), (3, (AV.v (.int .i64 y.2.2)))] [] (Z6 17).2.toks 0)
    | .inr y => k (.exit 2, mkS 70 [(0, (AV.list 25 y.1 none)), (3, (AV.v (.int .i64 y.2)))] [] (Z6 17).2.toks 0)
  spe := fun y α k => by rcases y with _ | _ <;> rfl
  b := fun u17 α kn ke => (match (decide (u17.2.2.2 < u17.2.2.1)) with | true => (if 0 ≤ u17.2.2.2 then (match u17.1[u17.2.2.2.toNat]? with | some c14 => (match ((c14.drop 9).drop 0)[0]? with | some x15 => (match zbF 9 x15 with | some l16 => (match F86_d N (u17.2.1, l16) with | some y17 => (match y17 with | true => (ke (.inl (u17.1, false, u17.2.2.1))) | false => (kn (u17.1, u17.2.1, u17.2.2.1, (i64 (u17.2.2.2 + 1))))) | none => none) | none => none) | none => none) | none => none) else none) | false => (ke (.inr (u17.1, u17.2.2.1))))
noncomputable abbrev zep (N : Nat) (x : (List (List AV)) × (List (List AV)) × Int × Int) : Option (((List (List AV)) × Bool × Int) ⊕ ((List (List AV)) × Int)) := (ZD N).L N x
noncomputable def jB (N : Nat) : LSpec where
  X := (List (List AV)) × Int
  Y := (Bool) ⊕ (Unit)
  p := fun s => rdS 70 0 [(0, .lst 25), (3, .int .i64)] [] s fun ⟨a0, a1, _⟩ _ => (a0, a1)
  st := fun u4 => mkS 70 [(0, (AV.list 25 u4.1 none)), (3, (AV.v (.int .i64 u4.2)))] [] (Z6 4).1.toks 0
  out := fun y => match y with
    | .inl y => (.ret, mkS 70 [(2, (AV.v (.bool y)))] [] (Z6 4).2.toks 0)
    | .inr y => (.exit 0, mkS 70 [] [] (Z6 4).2.toks 0)
  sp := fun y α k => match y with
    | .inl y => k (.ret, mkS 70 [(2, (AV.v (.bool y)))] [] (Z6 4).2.toks 0)
    | .inr y => k (.exit 0, mkS 70 [] [] (Z6 4).2.toks 0)
  spe := fun y α k => by rcases y with _ | _ <;> rfl
  b := fun u4 α kn ke => (match (decide (u4.2 < (u4.1.length : Int))) with | true => (if 0 ≤ u4.2 then (match u4.1[u4.2.toNat]? with | some c1 => (match ((c1.drop 9).drop 0)[0]? with | some x2 => (match zbF 9 x2 with | some l3 => (match ((l3.length : Int) == 0) with | true => (ke (.inl false)) | false => (if 0 ≤ u4.2 then (match u4.1[u4.2.toNat]? with | some c4 => (match Rrd1 (c4.drop 0) with | some e5 => (match F83_d N l3 with | some y6 => (match (!(((e5.1 == y6.1) && ((e5.2.1 == y6.2.1) && ((e5.2.2.1 == y6.2.2.1) && ((e5.2.2.2.1 == y6.2.2.2.1) && true)))) && ((e5.2.2.2.2.1 == y6.2.2.2.2.1) && ((e5.2.2.2.2.2.1 == y6.2.2.2.2.2.1) && ((e5.2.2.2.2.2.2.1 == y6.2.2.2.2.2.2.1) && ((e5.2.2.2.2.2.2.2.1 == y6.2.2.2.2.2.2.2.1) && ((e5.2.2.2.2.2.2.2.2.1 == y6.2.2.2.2.2.2.2.2.1) && true))))))) with | true => (ke (.inl false)) | false => (match F84_d N l3 with | some y7 => (match zkM N (l3, y7) with | some y8 => (match (!y8) with | true => (ke (.inl false)) | false => (match (decide (u4.2 > 0)) with | true => (if 0 ≤ (i64 (u4.2 - 1)) then (match u4.1[(i64 (u4.2 - 1)).toNat]? with | some c9 => (match Rrd1 (c9.drop 0) with | some e10 => (if 0 ≤ u4.2 then (match u4.1[u4.2.toNat]? with | some c11 => (match Rrd1 (c11.drop 0) with | some e12 => (match F85_d N (e10, e12) with | some y13 => (match (decide (y13 ≥ 0)) with | true => (ke (.inl false)) | false => (match zep N (u4.1, l3, u4.2, 0) with | some y18 => (match y18 with | .inl z19 => (ke (.inl z19.2.1)) | .inr z20 => (kn (z20.1, (i64 (z20.2 + 1))))) | none => none)) | none => none) | none => none) | none => none) else none) | none => none) | none => none) else none) | false => (match zep N (u4.1, l3, u4.2, 0) with | some y21 => (match y21 with | .inl z22 => (ke (.inl z22.2.1)) | .inr z23 => (kn (z23.1, (i64 (z23.2 + 1))))) | none => none))) | none => none) | none => none)) | none => none) | none => none) | none => none) else none)) | none => none) | none => none) | none => none) else none) | false => (ke (.inr ())))
noncomputable abbrev F73_d4 (N : Nat) (x : (List (List AV)) × Int) : Option ((Bool) ⊕ (Unit)) := (jB N).L N x
noncomputable def zja (N : Nat) : FSpec where
  X := (List (List AV))
  Y := Bool
  ash := [[some 25]]
  bsh := []
  S := ⟨[[none]], [], [], [], []⟩
  bm := false
  pat := fun a b => rdA [.lst 25] [] a b fun ⟨a0, _⟩ _ => a0
  args := fun x => [(AV.list 25 x none)]
  bs := fun x => []
  ret := fun y => ⟨(AV.v (.bool y)), [], none, [], [], []⟩
  t := fun x α k => (match F73_d4 N (x, 0) with | some y24 => (match y24 with | .inl z25 => (k z25) | .inr z26 => (k true)) | none => none)
noncomputable abbrev F73_d (N : Nat) (x : (List (List AV))) : Option (Bool) := (zja N).d x
noncomputable def za7 (N : Nat) : List (Nat × LSpec) := [(4, jB N), (17, ZD N)]
noncomputable def zdJ : Code := Try.f73.body.getD .skip
theorem zjM (N : Nat) : Par (ZD N).b := by
  intro x α β kn ke kn' ke' r r' h h1 h2
  revert h
  dsimp only [ZD]
  (repeat' (first | (with_reducible refine zg ?_ ?_) | (with_reducible refine zc ?_ ?_) | split)) <;> intro h <;> first | exact h1 _ h | exact h2 _ h | (cases h; done)
theorem zjn (N : Nat) : BdOk (zt Try.prog) (F73_g N) Z6 N (za7 N) 17 zdJ (ZD N) := fun x α kn ke => by kernel_rfl
theorem zdd (N : Nat) : LpOk Try.prog Z6 N (za7 N) 17 (zd 17 zdJ) :=
  zE (zf Try.prog) (zk _) zm Z6 N (za7 N) 17 zdJ (l := []) (by kernel_rfl) (by kernel_rfl) an (ZD N) rfl (fun s x hc h => by dsimp only [ZD] at h; exact zH hc h (fun _ _ => rfl) rfl rfl) (fun _ => rfl) (zjn N) (zjM N)
theorem F73_par4 (N : Nat) : Par (jB N).b := by
  intro x α β kn ke kn' ke' r r' h h1 h2
  revert h
  dsimp only [jB]
  (repeat' (first | (with_reducible refine zg ?_ ?_) | (with_reducible refine zc ?_ ?_) | split)) <;> intro h <;> first | exact h1 _ h | exact h2 _ h | (cases h; done)
theorem zlO (N : Nat) : BdOk (zt Try.prog) (F73_g N) Z6 N (za7 N) 4 zdJ (jB N) := fun x α kn ke => by kernel_rfl
theorem zlR (N : Nat) : LpOk Try.prog Z6 N (za7 N) 4 (zd 4 zdJ) :=
  zE (zf Try.prog) (zk _) zm Z6 N (za7 N) 4 zdJ (l := [(17, zd 17 zdJ)]) (by kernel_rfl) (by kernel_rfl) (al (zdd N) an) (jB N) rfl (fun s x hc h => by dsimp only [jB] at h; exact zH hc h (fun _ _ => rfl) rfl rfl) (fun _ => rfl) (zlO N) (F73_par4 N)
theorem F73_parF (N : Nat) : ParF (zja N).t := by
  intro x α β k k' r r' h h1
  revert h
  dsimp only [zja]
  (repeat' (first | (with_reducible refine zg ?_ ?_) | (with_reducible refine zc ?_ ?_) | split)) <;> intro h <;> first | exact h1 _ h | (cases h; done)
theorem F73_text (N : Nat) : TxOk (zt Try.prog) (F73_g N) Z6 (lam N (za7 N)) Try.f73 (zja N) := fun x => by kernel_rfl
noncomputable def F73_e (N : Nat) : Ent Try.prog := zB (zf Try.prog) (zk _) zm 73 Try.f73 Try.func73 rfl Z6 (lam N (za7 N)) (zp (l := [(4, zd 4 zdJ), (17, zd 17 zdJ)]) (al (zlR N) (al (zdd N) an)) (by kernel_rfl)) (zja N) (fun _ => ⟨rfl, rfl⟩) (F73_text N) (fun _ _ _ h => zA h (fun _ _ => rfl) (fun _ _ => rfl)) (F73_parF N)
def JZ : Nat → Keep × Keep := anL [(16, ⟨[4, 11], [], [], [(1, 38)], [], [], [], [], false⟩, ⟨[10], [], [], [], [], [], [], [], false⟩)]
noncomputable def F55_g (N : Nat) : GamK := gam (P := Try.prog) [F33_e N, F72_e N, F73_e N]
noncomputable def ZG (N : Nat) : LSpec where
  X := (List (List AV)) × Int × Int
  Y := (Int) ⊕ (Unit)
  p := fun s => rdS 62 0 [(1, .lst 38), (4, .int .i64), (11, .int .i64)] [] s fun ⟨a0, a1, a2, _⟩ _ => (a0, a1, a2)
  st := fun u16 => mkS 62 [(1, (AV.list 38 u16.1 none)), (4, (AV.v (.int .i64 u16.2.1))), (11, (AV.v (.int .i64 u16.2.2)))] [] (JZ 16).1.toks 0
  out := fun y => match y with
    | .inl y => (.ret, mkS 62 [(10, (AV.v (.int .i64 y)))] [] (JZ 16).2.toks 0)
    | .inr y => (.exit 0, mkS 62 [] [] (JZ 16).2.toks 0)
  sp := fun y α k => match y with
    | .inl y => k (.ret, mkS 62 [(10, (AV.v (.int .i64 y)))] [] (JZ 16).2.toks 0)
    | .inr y => k (.exit 0, mkS 62 [] [] (JZ 16).2.toks 0)
  spe := fun y α k => by rcases y with _ | _ <;> rfl
  b := fun u16 α kn ke => (match (decide (u16.2.2 < (u16.1.length : Int))) with | true => (if 0 ≤ u16.2.2 then (match u16.1[u16.2.2.toNat]? with | some c8 => (match (c8.drop 37)[0]? with | some x9 => (match x9 with | .v (.int q11 n10) => (if q11 = .i64 then (match (decide (u16.2.1 < n10)) with | true => (ke (.inl 9)) | false => (kn (u16.1, u16.2.1, (i64 (u16.2.2 + 1))))) else none) | _ => none) | none => none) | none => none) else none) | false => (ke (.inr ())))
noncomputable abbrev zf3 (N : Nat) (x : (List (List AV)) × Int × Int) : Option ((Int) ⊕ (Unit)) := (ZG N).L N x
noncomputable def zcH (N : Nat) : FSpec where
  X := (List (List AV)) × Int × Int × (List (List AV)) × Int × (List (List AV)) × Int
  Y := Int
  ash := [[some 4, none, none], [some 38], [none], [some 25], [none]]
  bsh := []
  S := ⟨[[none]], [], [], [], []⟩
  bm := false
  pat := fun a b => zj a fun v1 c2 => Z4 v1 fun c3 => zj c3 fun c4 c5 => pLst 4 c4 fun a0 => zj c5 fun c6 c7 => pInt .i64 c6 fun a1 => zj c7 fun c8 c9 => pInt .i64 c8 fun a2 => pEnd c9 <| zj c2 fun v10 c11 => pLst 38 v10 fun a3 => zj c11 fun v12 c13 => pInt .i64 v12 fun a4 => zj c13 fun v14 c15 => pLst 25 v14 fun a5 => zj c15 fun v16 c17 => pInt .i64 v16 fun a6 => pEnd c17 <| pEnd b <| some (a0, a1, a2, a3, a4, a5, a6)
  args := fun x => [(AV.agg [(AV.list 4 x.1 none), (AV.v (.int .i64 x.2.1)), (AV.v (.int .i64 x.2.2.1))]), (AV.list 38 x.2.2.2.1 none), (AV.v (.int .i64 x.2.2.2.2.1)), (AV.list 25 x.2.2.2.2.2.1 none), (AV.v (.int .i64 x.2.2.2.2.2.2))]
  bs := fun x => []
  ret := fun y => ⟨(AV.v (.int .i64 y)), [], none, [], [], []⟩
  t := fun x α k => (match zmA N (x.1, x.2.1, x.2.2.1) with | some y1 => (match (y1 != 0) with | true => (k 27) | false => (match F72_d N x.2.2.2.1 with | some y2 => (match (!y2) with | true => (k 1) | false => (match F73_d N x.2.2.2.2.2.1 with | some y3 => (match (!y3) with | true => (k 1) | false => (match (decide (x.2.2.2.2.1 < 0)) with | true => (k 1) | false => (match (decide ((x.2.2.2.1.length : Int) > 0)) with | true => (if 0 ≤ (i64 ((x.2.2.2.1.length : Int) - 1)) then (match x.2.2.2.1[(i64 ((x.2.2.2.1.length : Int) - 1)).toNat]? with | some c4 => (match (c4.drop 0)[0]? with | some x5 => (match x5 with | .v (.int q7 n6) => (if q7 = .i64 then (match (decide (x.2.2.2.2.1 ≤ n6)) with | true => (k 1) | false => (match (decide (x.2.2.2.2.2.2 < 0)) with | true => (k 2) | false => (match (decide (x.2.2.2.2.2.2 > 18014398509481984)) with | true => (k 2) | false => (match zf3 N (x.2.2.2.1, x.2.2.2.2.2.2, 0) with | some y12 => (match y12 with | .inl z13 => (k z13) | .inr z14 => (k 0)) | none => none)))) else none) | _ => none) | none => none) | none => none) else none) | false => (match (decide (x.2.2.2.2.2.2 < 0)) with | true => (k 2) | false => (match (decide (x.2.2.2.2.2.2 > 18014398509481984)) with | true => (k 2) | false => (match zf3 N (x.2.2.2.1, x.2.2.2.2.2.2, 0) with | some y15 => (match y15 with | .inl z16 => (k z16) | .inr z17 => (k 0)) | none => none)))))) | none => none)) | none => none)) | none => none)
noncomputable abbrev F55_d (N : Nat) (x : (List (List AV)) × Int × Int × (List (List AV)) × Int × (List (List AV)) × Int) : Option (Int) := (zcH N).d x
noncomputable def zfy (N : Nat) : List (Nat × LSpec) := [(16, ZG N)]
noncomputable def F55_c : Code := Try.f55.body.getD .skip
theorem zld (N : Nat) : Par (ZG N).b := by
  intro x α β kn ke kn' ke' r r' h h1 h2
  revert h
  dsimp only [ZG]
  (repeat' (first | (with_reducible refine zg ?_ ?_) | (with_reducible refine zc ?_ ?_) | split)) <;> intro h <;> first | exact h1 _ h | exact h2 _ h | (cases h; done)
theorem zhY (N : Nat) : BdOk (zt Try.prog) (F55_g N) JZ N (zfy N) 16 F55_c (ZG N) := fun x α kn ke => by kernel_rfl
theorem ziT (N : Nat) : LpOk Try.prog JZ N (zfy N) 16 (zd 16 F55_c) :=
  zE (zf Try.prog) (zk _) zm JZ N (zfy N) 16 F55_c (l := []) (by kernel_rfl) (by kernel_rfl) an (ZG N) rfl (fun s x hc h => by dsimp only [ZG] at h; exact zH hc h (fun _ _ => rfl) rfl rfl) (fun _ => rfl) (zhY N) (zld N)
theorem F55_parF (N : Nat) : ParF (zcH N).t := by
  intro x α β k k' r r' h h1
  revert h
  dsimp only [zcH]
  (repeat' (first | (with_reducible refine zg ?_ ?_) | (with_reducible refine zc ?_ ?_) | split)) <;> intro h <;> first | exact h1 _ h | (cases h; done)
theorem F55_text (N : Nat) : TxOk (zt Try.prog) (F55_g N) JZ (lam N (zfy N)) Try.f55 (zcH N) := fun x => by kernel_rfl
theorem F55_pat (N : Nat) (a : List AV) (b : List (List AV)) (x : (zcH N).X) (h : (zcH N).pat a b = some x) : a = (zcH N).args x ∧ b = (zcH N).bs x := by
  obtain ⟨v1, c2, rfl, g0⟩ := zb (show zj _ _ = some x from h)
  obtain ⟨c3, rfl, g1⟩ := zJ g0; clear g0
  obtain ⟨c4, c5, rfl, g2⟩ := zb g1; clear g1
  obtain ⟨a0, rfl, g3⟩ := zy g2; clear g2
  obtain ⟨c6, c7, rfl, g4⟩ := zb g3; clear g3
  obtain ⟨a1, rfl, g5⟩ := zi g4; clear g4
  obtain ⟨c8, c9, rfl, g6⟩ := zb g5; clear g5
  obtain ⟨a2, rfl, g7⟩ := zi g6; clear g6
  obtain ⟨rfl, g8⟩ := ze g7; clear g7
  obtain ⟨v10, c11, rfl, g9⟩ := zb g8; clear g8
  obtain ⟨a3, rfl, g10⟩ := zy g9; clear g9
  obtain ⟨v12, c13, rfl, g11⟩ := zb g10; clear g10
  obtain ⟨a4, rfl, g12⟩ := zi g11; clear g11
  obtain ⟨v14, c15, rfl, g13⟩ := zb g12; clear g12
  obtain ⟨a5, rfl, g14⟩ := zy g13; clear g13
  obtain ⟨v16, c17, rfl, g15⟩ := zb g14; clear g14
  obtain ⟨a6, rfl, g16⟩ := zi g15; clear g15
  obtain ⟨rfl, g17⟩ := ze g16; clear g16
  obtain ⟨rfl, g18⟩ := ze g17; clear g17
  clear h
  cases g18
  exact ⟨rfl, rfl⟩
noncomputable def F55_e (N : Nat) : Ent Try.prog := zB (zf Try.prog) (zk _) zm 55 Try.f55 Try.func55 rfl JZ (lam N (zfy N)) (zp (l := [(16, zd 16 F55_c)]) (al (ziT N) an) (by kernel_rfl)) (zcH N) (fun _ => ⟨rfl, rfl⟩) (F55_text N) (F55_pat N) (F55_parF N)
def JT : Nat → Keep × Keep := anL [(4, ⟨[3, 5], [], [3], [(0, 25)], [], [], [], [], false⟩, ⟨[4], [], [], [], [], [], [], [], false⟩)]
noncomputable def F13_g (N : Nat) : GamK := gam (P := Try.prog) []
noncomputable def ZY (N : Nat) : LSpec where
  X := (List (List AV)) × Int × RT1
  Y := (Int) ⊕ (Unit)
  p := fun s => rdS 20 0 [(0, .lst 25), (3, .ptr 3 0), (5, .int .i64)] [(3, .row RK1)] s fun ⟨a0, _, a1, _⟩ ⟨a2, _⟩ => (a0, a1, a2)
  st := fun u4 => mkS 20 [(0, (AV.list 25 u4.1 none)), (3, (AV.ptr 3 0)), (5, (AV.v (.int .i64 u4.2.1)))] [(3, (Ren1 u4.2.2))] (JT 4).1.toks 0
  out := fun y => match y with
    | .inl y => (.ret, mkS 20 [(4, (AV.v (.int .i64 y)))] [] (JT 4).2.toks 0)
    | .inr y => (.exit 0, mkS 20 [] [] (JT 4).2.toks 0)
  sp := fun y α k => match y with
    | .inl y => k (.ret, mkS 20 [(4, (AV.v (.int .i64 y)))] [] (JT 4).2.toks 0)
    | .inr y => k (.exit 0, mkS 20 [] [] (JT 4).2.toks 0)
  spe := fun y α k => by rcases y with _ | _ <;> rfl
  b := fun u4 α kn ke => (match (decide (u4.2.1 < (u4.1.length : Int))) with | true => (if 0 ≤ u4.2.1 then (match u4.1[u4.2.1.toNat]? with | some c1 => (match Rrd1 (c1.drop 0) with | some e2 => (match (((e2.1 == u4.2.2.1) && ((e2.2.1 == u4.2.2.2.1) && ((e2.2.2.1 == u4.2.2.2.2.1) && ((e2.2.2.2.1 == u4.2.2.2.2.2.1) && true)))) && ((e2.2.2.2.2.1 == u4.2.2.2.2.2.2.1) && ((e2.2.2.2.2.2.1 == u4.2.2.2.2.2.2.2.1) && ((e2.2.2.2.2.2.2.1 == u4.2.2.2.2.2.2.2.2.1) && ((e2.2.2.2.2.2.2.2.1 == u4.2.2.2.2.2.2.2.2.2.1) && ((e2.2.2.2.2.2.2.2.2.1 == u4.2.2.2.2.2.2.2.2.2.2.1) && true)))))) with | true => (ke (.inl u4.2.1)) | false => (kn (u4.1, (i64 (u4.2.1 + 1)), u4.2.2))) | none => none) | none => none) else none) | false => (ke (.inr ())))
noncomputable abbrev F13_d4 (N : Nat) (x : (List (List AV)) × Int × RT1) : Option ((Int) ⊕ (Unit)) := (ZY N).L N x
noncomputable def zit (N : Nat) : FSpec where
  X := (List (List AV)) × RT1
  Y := Int
  ash := [[some 25], [none, none, none, none, none, none, none, none, none]]
  bsh := []
  S := ⟨[[none]], [], [], [], []⟩
  bm := false
  pat := fun a b => rdA [.lst 25, .agg RK1] [] a b fun ⟨a0, a1, _⟩ _ => (a0, a1)
  args := fun x => [(AV.list 25 x.1 none), (AV.agg (Ren1 x.2))]
  bs := fun x => []
  ret := fun y => ⟨(AV.v (.int .i64 y)), [], none, [], [], []⟩
  t := fun x α k => (match F13_d4 N (x.1, 0, x.2) with | some y3 => (match y3 with | .inl z4 => (k z4) | .inr z5 => (k (-1))) | none => none)
noncomputable abbrev F13_d (N : Nat) (x : (List (List AV)) × RT1) : Option (Int) := (zit N).d x
noncomputable def zfm (N : Nat) : List (Nat × LSpec) := [(4, ZY N)]
noncomputable def F13_c : Code := Try.f13.body.getD .skip
theorem F13_par4 (N : Nat) : Par (ZY N).b := by
  intro x α β kn ke kn' ke' r r' h h1 h2
  revert h
  dsimp only [ZY]
  (repeat' (first | (with_reducible refine zg ?_ ?_) | (with_reducible refine zc ?_ ?_) | split)) <;> intro h <;> first | exact h1 _ h | exact h2 _ h | (cases h; done)
theorem zl6 (N : Nat) : BdOk (zt Try.prog) (F13_g N) JT N (zfm N) 4 F13_c (ZY N) := fun x α kn ke => by kernel_rfl
theorem zkl (N : Nat) : LpOk Try.prog JT N (zfm N) 4 (zd 4 F13_c) :=
  zE (zf Try.prog) (zk _) zm JT N (zfm N) 4 F13_c (l := []) (by kernel_rfl) (by kernel_rfl) an (ZY N) rfl (fun s x hc h => by dsimp only [ZY] at h; exact zH hc h (fun _ _ => rfl) rfl rfl) (fun _ => rfl) (zl6 N) (F13_par4 N)
theorem F13_parF (N : Nat) : ParF (zit N).t := by
  intro x α β k k' r r' h h1
  revert h
  dsimp only [zit]
  (repeat' (first | (with_reducible refine zg ?_ ?_) | (with_reducible refine zc ?_ ?_) | split)) <;> intro h <;> first | exact h1 _ h | (cases h; done)
theorem F13_text (N : Nat) : TxOk (zt Try.prog) (F13_g N) JT (lam N (zfm N)) Try.f13 (zit N) := fun x => by kernel_rfl
noncomputable def F13_e (N : Nat) : Ent Try.prog := zB (zf Try.prog) (zk _) zm 13 Try.f13 Try.func13 rfl JT (lam N (zfm N)) (zp (l := [(4, zd 4 F13_c)]) (al (zkl N) an) (by kernel_rfl)) (zit N) (fun _ => ⟨rfl, rfl⟩) (F13_text N) (fun _ _ _ h => zA h (fun _ _ => rfl) (fun _ _ => rfl)) (F13_parF N)
def jc : Nat → Keep × Keep := anL [(4, ⟨[5], [], [], [(0, 9), (1, 9)], [], [], [], [], false⟩, ⟨[4], [], [], [], [], [], [], [], false⟩), (12, ⟨[5, 6], [], [], [(0, 9), (1, 9)], [], [], [], [], false⟩, ⟨[4, 5], [], [], [(0, 9), (1, 9)], [], [], [], [], false⟩)]
noncomputable def F74_g (N : Nat) : GamK := gam (P := Try.prog) []
noncomputable def Zj (N : Nat) : LSpec where
  X := (List (List AV)) × (List (List AV)) × Int × Int
  Y := ((List (List AV)) × (List (List AV)) × Bool × Int) ⊕ ((List (List AV)) × (List (List AV)) × Int)
  p := fun s => rdS 28 0 [(0, .lst 9), (1, .lst 9), (5, .int .i64), (6, .int .i64)] [] s fun ⟨a0, a1, a2, a3, _⟩ _ => (a0, a1, a2, a3)
  st := fun u12 => mkS 28 [(0, (AV.list 9 u12.1 none)), (1, (AV.list 9 u12.2.1 none)), (5, (AV.v (.int .i64 u12.2.2.1))), (6, (AV.v (.int .i64 u12.2.2.2)))] [] (jc 12).1.toks 0
  out := fun y => match y with
    | .inl y => (.ret, mkS 28 [(0, (AV.list 9 y.1 none)), (1, (AV.list 9 y.2.1 none)), (4, (AV.v (.bool y.2.2.1))), (5, (AV.v (.int .i64 y.2.2.2)))] [] (jc 12).2.toks 0)
    | .inr y => (.exit 2, mkS 28 [(0, (AV.list 9 y.1 none)), (1, (AV.list 9 y.2.1 none)), (5, (AV.v (.int .i64 y.2.2)))] [] (jc 12).2.toks 0)
  sp := fun y α k => match y with
    | .inl y => k (.ret, mkS 28 [(0, (AV.list 9 y.1 none)), (1, (AV.list 9 y.2.1 none)), (4, (AV.v (.bool y.2.2.1))), (5, (AV.v (.int .i64 y.2.2.2)))] [] (jc 12).2.toks 0)
    | .inr y => k (.exit 2, mkS 28 [(0, (AV.list 9 y.1 none)), (1, (AV.list 9 y.2.1 none)), (5, (AV.v (.int .i64 y.2.2)))] [] (jc 12).2.toks 0)
  spe := fun y α k => by rcases y with _ | _ <;> rfl
  b := fun u12 α kn ke => (match (decide (u12.2.2.2 < (u12.2.1.length : Int))) with | true => (if 0 ≤ u12.2.2.1 then (match u12.1[u12.2.2.1.toNat]? with | some c1 => (match Rrd1 c1 with | some e2 => (if 0 ≤ u12.2.2.2 then (match u12.2.1[u12.2.2.2.toNat]? with | some c3 => (match Rrd1 c3 with | some e4 => (match (((e2.1 == e4.1) && ((e2.2.1 == e4.2.1) && ((e2.2.2.1 == e4.2.2.1) && ((e2.2.2.2.1 == e4.2.2.2.1) && true)))) && ((e2.2.2.2.2.1 == e4.2.2.2.2.1) && ((e2.2.2.2.2.2.1 == e4.2.2.2.2.2.1) && ((e2.2.2.2.2.2.2.1 == e4.2.2.2.2.2.2.1) && ((e2.2.2.2.2.2.2.2.1 == e4.2.2.2.2.2.2.2.1) && ((e2.2.2.2.2.2.2.2.2.1 == e4.2.2.2.2.2.2.2.2.1) && true)))))) with | true => (ke (.inl (u12.1, u12.2.1, true, u12.2.2.1))) | false => (kn (u12.1, u12.2.1, u12.2.2.1, (i64 (u12.2.2.2 + 1))))) | none => none) | none => none) else none) | none => none) | none => none) else none) | false => (ke (.inr (u12.1, u12.2.1, u12.2.2.1))))
noncomputable abbrev zgh (N : Nat) (x : (List (List AV)) × (List (List AV)) × Int × Int) : Option (((List (List AV)) × (List (List AV)) × Bool × Int) ⊕ ((List (List AV)) × (List (List AV)) × Int)) := (Zj N).L N x
noncomputable def Z0 (N : Nat) : LSpec where
  X := (List (List AV)) × (List (List AV)) × Int
  Y := (Bool) ⊕ (Unit)
  p := fun s => rdS 28 0 [(0, .lst 9), (1, .lst 9), (5, .int .i64)] [] s fun ⟨a0, a1, a2, _⟩ _ => (a0, a1, a2)
  st := fun u4 => mkS 28 [(0, (AV.list 9 u4.1 none)), (1, (AV.list 9 u4.2.1 none)), (5, (AV.v (.int .i64 u4.2.2)))] [] (jc 4).1.toks 0
  out := fun y => match y with
    | .inl y => (.ret, mkS 28 [(4, (AV.v (.bool y)))] [] (jc 4).2.toks 0)
    | .inr y => (.exit 0, mkS 28 [] [] (jc 4).2.toks 0)
  sp := fun y α k => match y with
    | .inl y => k (.ret, mkS 28 [(4, (AV.v (.bool y)))] [] (jc 4).2.toks 0)
    | .inr y => k (.exit 0, mkS 28 [] [] (jc 4).2.toks 0)
  spe := fun y α k => by rcases y with _ | _ <;> rfl
  b := fun u4 α kn ke => (match (decide (u4.2.2 < (u4.1.length : Int))) with | true => (match zgh N (u4.1, u4.2.1, u4.2.2, 0) with | some y5 => (match y5 with | .inl z6 => (ke (.inl z6.2.2.1)) | .inr z7 => (kn (z7.1, z7.2.1, (i64 (z7.2.2 + 1))))) | none => none) | false => (ke (.inr ())))
noncomputable abbrev F74_d4 (N : Nat) (x : (List (List AV)) × (List (List AV)) × Int) : Option ((Bool) ⊕ (Unit)) := (Z0 N).L N x
noncomputable def zhC (N : Nat) : FSpec where
  X := (List (List AV)) × (List (List AV))
  Y := Bool
  ash := [[some 9], [some 9]]
  bsh := []
  S := ⟨[[none]], [], [], [], []⟩
  bm := false
  pat := fun a b => rdA [.lst 9, .lst 9] [] a b fun ⟨a0, a1, _⟩ _ => (a0, a1)
  args := fun x => [(AV.list 9 x.1 none), (AV.list 9 x.2 none)]
  bs := fun x => []
  ret := fun y => ⟨(AV.v (.bool y)), [], none, [], [], []⟩
  t := fun x α k => (match F74_d4 N (x.1, x.2, 0) with | some y8 => (match y8 with | .inl z9 => (k z9) | .inr z10 => (k false)) | none => none)
noncomputable abbrev F74_d (N : Nat) (x : (List (List AV)) × (List (List AV))) : Option (Bool) := (zhC N).d x
noncomputable def zaO (N : Nat) : List (Nat × LSpec) := [(4, Z0 N), (12, Zj N)]
noncomputable def zdN : Code := Try.f74.body.getD .skip
theorem zk0 (N : Nat) : Par (Zj N).b := by
  intro x α β kn ke kn' ke' r r' h h1 h2
  revert h
  dsimp only [Zj]
  (repeat' (first | (with_reducible refine zg ?_ ?_) | (with_reducible refine zc ?_ ?_) | split)) <;> intro h <;> first | exact h1 _ h | exact h2 _ h | (cases h; done)
theorem zjm (N : Nat) : BdOk (zt Try.prog) (F74_g N) jc N (zaO N) 12 zdN (Zj N) := fun x α kn ke => by kernel_rfl
theorem zdr (N : Nat) : LpOk Try.prog jc N (zaO N) 12 (zd 12 zdN) :=
  zE (zf Try.prog) (zk _) zm jc N (zaO N) 12 zdN (l := []) (by kernel_rfl) (by kernel_rfl) an (Zj N) rfl (fun s x hc h => by dsimp only [Zj] at h; exact zH hc h (fun _ _ => rfl) rfl rfl) (fun _ => rfl) (zjm N) (zk0 N)
theorem F74_par4 (N : Nat) : Par (Z0 N).b := by
  intro x α β kn ke kn' ke' r r' h h1 h2
  revert h
  dsimp only [Z0]
  (repeat' (first | (with_reducible refine zg ?_ ?_) | (with_reducible refine zc ?_ ?_) | split)) <;> intro h <;> first | exact h1 _ h | exact h2 _ h | (cases h; done)
theorem zkB (N : Nat) : BdOk (zt Try.prog) (F74_g N) jc N (zaO N) 4 zdN (Z0 N) := fun x α kn ke => by kernel_rfl
theorem zkC (N : Nat) : LpOk Try.prog jc N (zaO N) 4 (zd 4 zdN) :=
  zE (zf Try.prog) (zk _) zm jc N (zaO N) 4 zdN (l := [(12, zd 12 zdN)]) (by kernel_rfl) (by kernel_rfl) (al (zdr N) an) (Z0 N) rfl (fun s x hc h => by dsimp only [Z0] at h; exact zH hc h (fun _ _ => rfl) rfl rfl) (fun _ => rfl) (zkB N) (F74_par4 N)
theorem F74_parF (N : Nat) : ParF (zhC N).t := by
  intro x α β k k' r r' h h1
  revert h
  dsimp only [zhC]
  (repeat' (first | (with_reducible refine zg ?_ ?_) | (with_reducible refine zc ?_ ?_) | split)) <;> intro h <;> first | exact h1 _ h | (cases h; done)
theorem F74_text (N : Nat) : TxOk (zt Try.prog) (F74_g N) jc (lam N (zaO N)) Try.f74 (zhC N) := fun x => by kernel_rfl
noncomputable def F74_e (N : Nat) : Ent Try.prog := zB (zf Try.prog) (zk _) zm 74 Try.f74 Try.func74 rfl jc (lam N (zaO N)) (zp (l := [(4, zd 4 zdN), (12, zd 12 zdN)]) (al (zkC N) (al (zdr N) an)) (by kernel_rfl)) (zhC N) (fun _ => ⟨rfl, rfl⟩) (F74_text N) (fun _ _ _ h => zA h (fun _ _ => rfl) (fun _ _ => rfl)) (F74_parF N)
def jS : Nat → Keep × Keep := anL [(4, ⟨[0, 1, 5], [], [0], [], [], [], [], [0], false⟩, ⟨[4], [], [0], [], [], [], [], [0], false⟩)]
noncomputable def F58a_g (N : Nat) : GamK := gam (P := Try.prog) []
noncomputable def Zl (N : Nat) : LSpec where
  X := Nat × Int × Int × (List AV)
  Y := (Bool × (List AV)) ⊕ ((List AV))
  p := fun s => rdS 18 1 [(0, .vs0 0 1), (1, .int .i64), (5, .int .i64)] [(0, .tt)] s fun ⟨a0, a1, a2, _⟩ ⟨a3, _⟩ => (a0, a1, a2, a3)
  st := fun u4 => mkS 18 [(0, (AV.vs 0 0 u4.1 1)), (1, (AV.v (.int .i64 u4.2.1))), (5, (AV.v (.int .i64 u4.2.2.1)))] [(0, u4.2.2.2)] (jS 4).1.toks 1
  out := fun y => match y with
    | .inl y => (.ret, mkS 18 [(4, (AV.v (.bool y.1)))] [(0, y.2)] (jS 4).2.toks 1)
    | .inr y => (.exit 0, mkS 18 [] [(0, y)] (jS 4).2.toks 1)
  sp := fun y α k => match y with
    | .inl y => k (.ret, mkS 18 [(4, (AV.v (.bool y.1)))] [(0, y.2)] (jS 4).2.toks 1)
    | .inr y => k (.exit 0, mkS 18 [] [(0, y)] (jS 4).2.toks 1)
  spe := fun y α k => by rcases y with _ | _ <;> rfl
  b := fun u4 α kn ke => (match (decide (u4.2.2.1 < ((u4.1 : Nat) : Int))) with | true => (if 0 ≤ u4.2.2.1 ∧ u4.2.2.1 < (u4.1 : Int) then (match u4.2.2.2[((0 + u4.2.2.1.toNat) * 1)]? with | some x4 => (match x4 with | .v (.int q6 n5) => (if q6 = .i64 then (match (n5 == u4.2.1) with | true => (ke (.inl (true, (u4.2.2.2.map dat0)))) | false => (kn (u4.1, u4.2.1, (i64 (u4.2.2.1 + 1)), (u4.2.2.2.map dat0)))) else none) | _ => none) | none => none) else none) | false => (ke (.inr (u4.2.2.2.map dat0))))
noncomputable abbrev zm2 (N : Nat) (x : Nat × Int × Int × (List AV)) : Option ((Bool × (List AV)) ⊕ ((List AV))) := (Zl N).L N x
noncomputable def zdf (N : Nat) : FSpec where
  X := Nat × Int × (List AV)
  Y := Bool × (List AV)
  ash := [[none], [none]]
  bsh := [[]]
  S := ⟨[[none]], [[]], [], [], [0]⟩
  bm := false
  pat := fun a b => rdA [.vs0 0 1, .int .i64] [.tt] a b fun ⟨a0, a1, _⟩ ⟨a2, _⟩ => (a0, a1, a2)
  args := fun x => [(AV.vs 0 0 x.1 1), (AV.v (.int .i64 x.2.1))]
  bs := fun x => [x.2.2]
  ret := fun y => ⟨(AV.v (.bool y.1)), [y.2], none, [], [], [0]⟩
  t := fun x α k => (match zm2 N (x.1, x.2.1, 0, (x.2.2.map dat0)) with | some y7 => (match y7 with | .inl z8 => (k (z8.1, (z8.2.map dat0))) | .inr z9 => (k (false, (z9.map dat0)))) | none => none)
noncomputable abbrev zc8 (N : Nat) (x : Nat × Int × (List AV)) : Option (Bool × (List AV)) := (zdf N).d x
noncomputable def zck (N : Nat) : List (Nat × LSpec) := [(4, Zl N)]
noncomputable def zgV : Code := Try.f58.body.getD .skip
theorem zkd (N : Nat) : Par (Zl N).b := by
  intro x α β kn ke kn' ke' r r' h h1 h2
  revert h
  dsimp only [Zl]
  (repeat' (first | (with_reducible refine zg ?_ ?_) | (with_reducible refine zc ?_ ?_) | split)) <;> intro h <;> first | exact h1 _ h | exact h2 _ h | (cases h; done)
theorem zhQ (N : Nat) : BdOk (zt Try.prog) (F58a_g N) jS N (zck N) 4 zgV (Zl N) := fun x α kn ke => by kernel_rfl
theorem ziE (N : Nat) : LpOk Try.prog jS N (zck N) 4 (zd 4 zgV) :=
  zE (zf Try.prog) (zk _) zm jS N (zck N) 4 zgV (l := []) (by kernel_rfl) (by kernel_rfl) an (Zl N) rfl (fun s x hc h => by dsimp only [Zl] at h; exact zH hc h (fun _ _ => rfl) rfl rfl) (fun _ => rfl) (zhQ N) (zkd N)
theorem zjR (N : Nat) : ParF (zdf N).t := by
  intro x α β k k' r r' h h1
  revert h
  dsimp only [zdf]
  (repeat' (first | (with_reducible refine zg ?_ ?_) | (with_reducible refine zc ?_ ?_) | split)) <;> intro h <;> first | exact h1 _ h | (cases h; done)
theorem zjW (N : Nat) : TxOk (zt Try.prog) (F58a_g N) jS (lam N (zck N)) Try.f58 (zdf N) := fun x => by kernel_rfl
noncomputable def F58a_e (N : Nat) : Ent Try.prog := zB (zf Try.prog) (zk _) zm 58 Try.f58 Try.func58 rfl jS (lam N (zck N)) (zp (l := [(4, zd 4 zgV)]) (al (ziE N) an) (by kernel_rfl)) (zdf N) (fun _ => ⟨rfl, rfl⟩) (zjW N) (fun _ _ _ h => zA h (fun _ _ => rfl) (fun _ _ => rfl)) (zjR N)
def F34_an : Nat → Keep × Keep := anL []
noncomputable def F34_g (N : Nat) : GamK := gam (P := Try.prog) []
noncomputable def ziI (N : Nat) : FSpec where
  X := RT4 × RT0
  Y := Bool
  ash := [[none, none, none, none], [none, none, none, none, none, none, none, none, none, some 9, none, none, none, none, none, none, none, none, none, none, none, none, none, none, none]]
  bsh := []
  S := ⟨[[none]], [], [], [], []⟩
  bm := false
  pat := fun a b => rdA [.agg RK4, .agg RK0] [] a b fun ⟨a0, a1, _⟩ _ => (a0, a1)
  args := fun x => [(AV.agg (Ren4 x.1)), (AV.agg (Ren0 x.2))]
  bs := fun x => []
  ret := fun y => ⟨(AV.v (.bool y)), [], none, [], [], []⟩
  t := fun x α k => (match (decide (x.2.2.2.2.2.2.2.2.2.2.2.2.2.2.2.2.2.2.2.2.2.2.2.2.2.1 ≥ 1)) with | true => (match (decide (x.2.2.2.2.2.2.2.2.2.2.2.2.2.2.2.2.2.2.2.2.2.2.2.1 ≥ x.1.1)) with | true => (match (decide ((x.2.2.2.2.2.2.2.2.2.2.1.length : Int) ≥ x.1.2.1)) with | true => (k (decide (x.2.2.2.2.2.2.2.2.2.2.2.2.2.2.2.1 ≤ x.1.2.2.1))) | false => (k false)) | false => (k false)) | false => (k false))
noncomputable abbrev F34_d (N : Nat) (x : RT4 × RT0) : Option (Bool) := (ziI N).d x
theorem F34_parF (N : Nat) : ParF (ziI N).t := by
  intro x α β k k' r r' h h1
  revert h
  dsimp only [ziI]
  (repeat' (first | (with_reducible refine zg ?_ ?_) | (with_reducible refine zc ?_ ?_) | split)) <;> intro h <;> first | exact h1 _ h | (cases h; done)
theorem F34_text (N : Nat) : TxOk (zt Try.prog) (F34_g N) F34_an (lam N []) Try.f34 (ziI N) := fun x => by kernel_rfl
noncomputable def F34_e (N : Nat) : Ent Try.prog := zB (zf Try.prog) (zk _) zm 34 Try.f34 Try.func34 rfl F34_an (lam N []) (zp (l := []) an (by kernel_rfl)) (ziI N) (fun _ => ⟨rfl, rfl⟩) (F34_text N) (fun _ _ _ h => zA h (fun _ _ => rfl) (fun _ _ => rfl)) (F34_parF N)
def zba : Nat → Keep × Keep := anL [(5, ⟨[2, 3, 5, 6], [], [2, 3], [], [], [], [], [], false⟩, ⟨[5], [], [], [], [], [], [], [], false⟩)]
noncomputable def F14_g (N : Nat) : GamK := gam (P := Try.prog) [F33_e N, F34_e N]
noncomputable def jy (N : Nat) : LSpec where
  X := Int × Int × (List (List AV)) × Int × Int × RT0
  Y := (Int)
  p := fun s => rdS 29 0 [(2, .ptr 2 0), (3, .ptr 3 0), (5, .int .i64), (6, .int .i64)] [(2, .cells [.lst 4, .int .i64, .int .i64]), (3, .row RK0)] s fun ⟨_, _, a0, a1, _⟩ ⟨⟨a2, a3, a4, _⟩, a5, _⟩ => (a0, a1, a2, a3, a4, a5)
  st := fun u5 => mkS 29 [(2, (AV.ptr 2 0)), (3, (AV.ptr 3 0)), (5, (AV.v (.int .i64 u5.1))), (6, (AV.v (.int .i64 u5.2.1)))] [(2, [(AV.list 4 u5.2.2.1 none), (AV.v (.int .i64 u5.2.2.2.1)), (AV.v (.int .i64 u5.2.2.2.2.1))]), (3, (Ren0 u5.2.2.2.2.2))] (zba 5).1.toks 0
  out := fun y => (.exit 0, mkS 29 [(5, (AV.v (.int .i64 y)))] [] (zba 5).2.toks 0)
  sp := fun y α k => k (.exit 0, mkS 29 [(5, (AV.v (.int .i64 y)))] [] (zba 5).2.toks 0)
  spe := fun y α k => rfl
  b := fun u5 α kn ke => (match (decide (u5.2.1 < (u5.2.2.1.length : Int))) with | true => (match zmA N (u5.2.2.1, u5.2.2.2.1, u5.2.2.2.2.1) with | some y1 => (match (y1 == 0) with | true => (if 0 ≤ u5.2.1 then (match u5.2.2.1[u5.2.1.toNat]? with | some c2 => (match Rrd4 c2 with | some e3 => (match F34_d N (e3, u5.2.2.2.2.2) with | some y4 => (match y4 with | true => (kn ((i64 (u5.2.1 + 1)), (i64 (u5.2.1 + 1)), u5.2.2)) | false => (kn (u5.1, (i64 (u5.2.1 + 1)), u5.2.2))) | none => none) | none => none) | none => none) else none) | false => (ke u5.1)) | none => none) | false => (ke u5.1))
noncomputable abbrev F14_d5 (N : Nat) (x : Int × Int × (List (List AV)) × Int × Int × RT0) : Option ((Int)) := (jy N).L N x
noncomputable def zcA (N : Nat) : FSpec where
  X := (List (List AV)) × Int × Int × RT0
  Y := Int
  ash := [[some 4, none, none], [none, none, none, none, none, none, none, none, none, some 9, none, none, none, none, none, none, none, none, none, none, none, none, none, none, none]]
  bsh := []
  S := ⟨[[none]], [], [], [], []⟩
  bm := false
  pat := fun a b => zj a fun v1 c2 => Z4 v1 fun c3 => zj c3 fun c4 c5 => pLst 4 c4 fun a0 => zj c5 fun c6 c7 => pInt .i64 c6 fun a1 => zj c7 fun c8 c9 => pInt .i64 c8 fun a2 => pEnd c9 <| zj c2 fun v10 c11 => pAgg RK0 v10 fun a3 => pEnd c11 <| pEnd b <| some (a0, a1, a2, a3)
  args := fun x => [(AV.agg [(AV.list 4 x.1 none), (AV.v (.int .i64 x.2.1)), (AV.v (.int .i64 x.2.2.1))]), (AV.agg (Ren0 x.2.2.2))]
  bs := fun x => []
  ret := fun y => ⟨(AV.v (.int .i64 y)), [], none, [], [], []⟩
  t := fun x α k => (match F14_d5 N (0, 0, x) with | some y5 => (k y5) | none => none)
noncomputable abbrev zdP (N : Nat) (x : (List (List AV)) × Int × Int × RT0) : Option (Int) := (zcA N).d x
noncomputable def zfc (N : Nat) : List (Nat × LSpec) := [(5, jy N)]
noncomputable def F14_c : Code := Try.f14.body.getD .skip
theorem F14_par5 (N : Nat) : Par (jy N).b := by
  intro x α β kn ke kn' ke' r r' h h1 h2
  revert h
  dsimp only [jy]
  (repeat' (first | (with_reducible refine zg ?_ ?_) | (with_reducible refine zc ?_ ?_) | split)) <;> intro h <;> first | exact h1 _ h | exact h2 _ h | (cases h; done)
theorem zmt (N : Nat) : BdOk (zt Try.prog) (F14_g N) zba N (zfc N) 5 F14_c (jy N) := fun x α kn ke => by kernel_rfl
theorem zlC (N : Nat) : LpOk Try.prog zba N (zfc N) 5 (zd 5 F14_c) :=
  zE (zf Try.prog) (zk _) zm zba N (zfc N) 5 F14_c (l := []) (by kernel_rfl) (by kernel_rfl) an (jy N) rfl (fun s x hc h => by dsimp only [jy] at h; exact zH hc h (fun _ _ => rfl) rfl rfl) (fun _ => rfl) (zmt N) (F14_par5 N)
theorem F14_parF (N : Nat) : ParF (zcA N).t := by
  intro x α β k k' r r' h h1
  revert h
  dsimp only [zcA]
  (repeat' (first | (with_reducible refine zg ?_ ?_) | (with_reducible refine zc ?_ ?_) | split)) <;> intro h <;> first | exact h1 _ h | (cases h; done)
theorem F14_text (N : Nat) : TxOk (zt Try.prog) (F14_g N) zba (lam N (zfc N)) Try.f14 (zcA N) := fun x => by kernel_rfl
theorem F14_pat (N : Nat) (a : List AV) (b : List (List AV)) (x : (zcA N).X) (h : (zcA N).pat a b = some x) : a = (zcA N).args x ∧ b = (zcA N).bs x := by
  obtain ⟨v1, c2, rfl, g0⟩ := zb (show zj _ _ = some x from h)
  obtain ⟨c3, rfl, g1⟩ := zJ g0; clear g0
  obtain ⟨c4, c5, rfl, g2⟩ := zb g1; clear g1
  obtain ⟨a0, rfl, g3⟩ := zy g2; clear g2
  obtain ⟨c6, c7, rfl, g4⟩ := zb g3; clear g3
  obtain ⟨a1, rfl, g5⟩ := zi g4; clear g4
  obtain ⟨c8, c9, rfl, g6⟩ := zb g5; clear g5
  obtain ⟨a2, rfl, g7⟩ := zi g6; clear g6
  obtain ⟨rfl, g8⟩ := ze g7; clear g7
  obtain ⟨v10, c11, rfl, g9⟩ := zb g8; clear g8
  obtain ⟨a3, rfl, g10⟩ := j9 g9; clear g9
  obtain ⟨rfl, g11⟩ := ze g10; clear g10
  obtain ⟨rfl, g12⟩ := ze g11; clear g11
  clear h
  cases g12
  exact ⟨rfl, rfl⟩
noncomputable def F14_e (N : Nat) : Ent Try.prog := zB (zf Try.prog) (zk _) zm 14 Try.f14 Try.func14 rfl zba (lam N (zfc N)) (zp (l := [(5, zd 5 F14_c)]) (al (zlC N) an) (by kernel_rfl)) (zcA N) (fun _ => ⟨rfl, rfl⟩) (F14_text N) (F14_pat N) (F14_parF N)
def F75_an : Nat → Keep × Keep := anL []
noncomputable def F75_g (N : Nat) : GamK := gam (P := Try.prog) []
noncomputable def zdI (N : Nat) : FSpec where
  X := Int × Int × Int × Int
  Y := Bool
  ash := [[none, none], [none, none]]
  bsh := []
  S := ⟨[[none]], [], [], [], []⟩
  bm := false
  pat := fun a b => zj a fun v1 c2 => Z4 v1 fun c3 => zj c3 fun c4 c5 => pInt .i64 c4 fun a0 => zj c5 fun c6 c7 => pInt .i64 c6 fun a1 => pEnd c7 <| zj c2 fun v8 c9 => Z4 v8 fun c10 => zj c10 fun c11 c12 => pInt .i64 c11 fun a2 => zj c12 fun c13 c14 => pInt .i64 c13 fun a3 => pEnd c14 <| pEnd c9 <| pEnd b <| some (a0, a1, a2, a3)
  args := fun x => [(AV.agg [(AV.v (.int .i64 x.1)), (AV.v (.int .i64 x.2.1))]), (AV.agg [(AV.v (.int .i64 x.2.2.1)), (AV.v (.int .i64 x.2.2.2))])]
  bs := fun x => []
  ret := fun y => ⟨(AV.v (.bool y)), [], none, [], [], []⟩
  t := fun x α k => (k (decide ((if x.2.2.1 > x.1 then x.2.2.1 else x.1) ≤ (if x.2.2.2 < x.2.1 then x.2.2.2 else x.2.1))))
noncomputable abbrev F75_d (N : Nat) (x : Int × Int × Int × Int) : Option (Bool) := (zdI N).d x
theorem F75_parF (N : Nat) : ParF (zdI N).t := by
  intro x α β k k' r r' h h1
  revert h
  dsimp only [zdI]
  (repeat' (first | (with_reducible refine zg ?_ ?_) | (with_reducible refine zc ?_ ?_) | split)) <;> intro h <;> first | exact h1 _ h | (cases h; done)
theorem F75_text (N : Nat) : TxOk (zt Try.prog) (F75_g N) F75_an (lam N []) Try.f75 (zdI N) := fun x => by kernel_rfl
theorem F75_pat (N : Nat) (a : List AV) (b : List (List AV)) (x : (zdI N).X) (h : (zdI N).pat a b = some x) : a = (zdI N).args x ∧ b = (zdI N).bs x := by
  obtain ⟨v1, c2, rfl, g0⟩ := zb (show zj _ _ = some x from h)
  obtain ⟨c3, rfl, g1⟩ := zJ g0; clear g0
  obtain ⟨c4, c5, rfl, g2⟩ := zb g1; clear g1
  obtain ⟨a0, rfl, g3⟩ := zi g2; clear g2
  obtain ⟨c6, c7, rfl, g4⟩ := zb g3; clear g3
  obtain ⟨a1, rfl, g5⟩ := zi g4; clear g4
  obtain ⟨rfl, g6⟩ := ze g5; clear g5
  obtain ⟨v8, c9, rfl, g7⟩ := zb g6; clear g6
  obtain ⟨c10, rfl, g8⟩ := zJ g7; clear g7
  obtain ⟨c11, c12, rfl, g9⟩ := zb g8; clear g8
  obtain ⟨a2, rfl, g10⟩ := zi g9; clear g9
  obtain ⟨c13, c14, rfl, g11⟩ := zb g10; clear g10
  obtain ⟨a3, rfl, g12⟩ := zi g11; clear g11
  obtain ⟨rfl, g13⟩ := ze g12; clear g12
  obtain ⟨rfl, g14⟩ := ze g13; clear g13
  obtain ⟨rfl, g15⟩ := ze g14; clear g14
  clear h
  cases g15
  exact ⟨rfl, rfl⟩
noncomputable def F75_e (N : Nat) : Ent Try.prog := zB (zf Try.prog) (zk _) zm 75 Try.f75 Try.func75 rfl F75_an (lam N []) (zp (l := []) an (by kernel_rfl)) (zdI N) (fun _ => ⟨rfl, rfl⟩) (F75_text N) (F75_pat N) (F75_parF N)
def F87_an : Nat → Keep × Keep := anL []
noncomputable def F87_g (N : Nat) : GamK := gam (P := Try.prog) []
noncomputable def zcF (N : Nat) : FSpec where
  X := Int × Int × Int
  Y := Bool
  ash := [[none, none, none]]
  bsh := []
  S := ⟨[[none]], [], [], [], []⟩
  bm := false
  pat := fun a b => zj a fun v1 c2 => Z4 v1 fun c3 => zj c3 fun c4 c5 => pInt .i64 c4 fun a0 => zj c5 fun c6 c7 => pInt .i64 c6 fun a1 => zj c7 fun c8 c9 => pInt .i64 c8 fun a2 => pEnd c9 <| pEnd c2 <| pEnd b <| some (a0, a1, a2)
  args := fun x => [(AV.agg [(AV.v (.int .i64 x.1)), (AV.v (.int .i64 x.2.1)), (AV.v (.int .i64 x.2.2))])]
  bs := fun x => []
  ret := fun y => ⟨(AV.v (.bool y)), [], none, [], [], []⟩
  t := fun x α k => (match (decide (x.1 ≥ (-1048576))) with | true => (match (decide (x.1 ≤ 1048576)) with | true => (match (decide (x.2.1 ≥ (-1048576))) with | true => (match (decide (x.2.1 ≤ 1048576)) with | true => (match (decide (x.2.2 ≥ (-16384))) with | true => (k (decide (x.2.2 ≤ 1048576))) | false => (k false)) | false => (k false)) | false => (k false)) | false => (k false)) | false => (k false))
noncomputable abbrev F87_d (N : Nat) (x : Int × Int × Int) : Option (Bool) := (zcF N).d x
theorem F87_parF (N : Nat) : ParF (zcF N).t := by
  intro x α β k k' r r' h h1
  revert h
  dsimp only [zcF]
  (repeat' (first | (with_reducible refine zg ?_ ?_) | (with_reducible refine zc ?_ ?_) | split)) <;> intro h <;> first | exact h1 _ h | (cases h; done)
theorem F87_text (N : Nat) : TxOk (zt Try.prog) (F87_g N) F87_an (lam N []) Try.f87 (zcF N) := fun x => by kernel_rfl
theorem F87_pat (N : Nat) (a : List AV) (b : List (List AV)) (x : (zcF N).X) (h : (zcF N).pat a b = some x) : a = (zcF N).args x ∧ b = (zcF N).bs x := by
  obtain ⟨v1, c2, rfl, g0⟩ := zb (show zj _ _ = some x from h)
  obtain ⟨c3, rfl, g1⟩ := zJ g0; clear g0
  obtain ⟨c4, c5, rfl, g2⟩ := zb g1; clear g1
  obtain ⟨a0, rfl, g3⟩ := zi g2; clear g2
  obtain ⟨c6, c7, rfl, g4⟩ := zb g3; clear g3
  obtain ⟨a1, rfl, g5⟩ := zi g4; clear g4
  obtain ⟨c8, c9, rfl, g6⟩ := zb g5; clear g5
  obtain ⟨a2, rfl, g7⟩ := zi g6; clear g6
  obtain ⟨rfl, g8⟩ := ze g7; clear g7
  obtain ⟨rfl, g9⟩ := ze g8; clear g8
  obtain ⟨rfl, g10⟩ := ze g9; clear g9
  clear h
  cases g10
  exact ⟨rfl, rfl⟩
noncomputable def F87_e (N : Nat) : Ent Try.prog := zB (zf Try.prog) (zk _) zm 87 Try.f87 Try.func87 rfl F87_an (lam N []) (zp (l := []) an (by kernel_rfl)) (zcF N) (fun _ => ⟨rfl, rfl⟩) (F87_text N) (F87_pat N) (F87_parF N)
def F88_an : Nat → Keep × Keep := anL []
noncomputable def F88_g (N : Nat) : GamK := gam (P := Try.prog) []
noncomputable def zkb (N : Nat) : FSpec where
  X := Int
  Y := Int
  ash := [[none]]
  bsh := []
  S := ⟨[[none]], [], [], [], []⟩
  bm := false
  pat := fun a b => rdA [.int .i64] [] a b fun ⟨a0, _⟩ _ => a0
  args := fun x => [(AV.v (.int .i64 x))]
  bs := fun x => []
  ret := fun y => ⟨(AV.v (.int .i64 y)), [], none, [], [], []⟩
  t := fun x α k => (k (i64 (x * x)))
noncomputable abbrev F88_d (N : Nat) (x : Int) : Option (Int) := (zkb N).d x
theorem F88_parF (N : Nat) : ParF (zkb N).t := by
  intro x α β k k' r r' h h1
  revert h
  dsimp only [zkb]
  (repeat' (first | (with_reducible refine zg ?_ ?_) | (with_reducible refine zc ?_ ?_) | split)) <;> intro h <;> first | exact h1 _ h | (cases h; done)
theorem F88_text (N : Nat) : TxOk (zt Try.prog) (F88_g N) F88_an (lam N []) Try.f88 (zkb N) := fun x => by kernel_rfl
noncomputable def F88_e (N : Nat) : Ent Try.prog := zB (zf Try.prog) (zk _) zm 88 Try.f88 Try.func88 rfl F88_an (lam N []) (zp (l := []) an (by kernel_rfl)) (zkb N) (fun _ => ⟨rfl, rfl⟩) (F88_text N) (fun _ _ _ h => zA h (fun _ _ => rfl) (fun _ _ => rfl)) (F88_parF N)
def F76_an : Nat → Keep × Keep := anL []
noncomputable def F76_g (N : Nat) : GamK := gam (P := Try.prog) [F87_e N, F88_e N]
noncomputable def zcQ (N : Nat) : FSpec where
  X := Int × Int × Int × Int × Int × Int
  Y := Int
  ash := [[none, none, none], [none, none, none]]
  bsh := []
  S := ⟨[[none]], [], [], [], []⟩
  bm := false
  pat := fun a b => zj a fun v1 c2 => Z4 v1 fun c3 => zj c3 fun c4 c5 => pInt .i64 c4 fun a0 => zj c5 fun c6 c7 => pInt .i64 c6 fun a1 => zj c7 fun c8 c9 => pInt .i64 c8 fun a2 => pEnd c9 <| zj c2 fun v10 c11 => Z4 v10 fun c12 => zj c12 fun c13 c14 => pInt .i64 c13 fun a3 => zj c14 fun c15 c16 => pInt .i64 c15 fun a4 => zj c16 fun c17 c18 => pInt .i64 c17 fun a5 => pEnd c18 <| pEnd c11 <| pEnd b <| some (a0, a1, a2, a3, a4, a5)
  args := fun x => [(AV.agg [(AV.v (.int .i64 x.1)), (AV.v (.int .i64 x.2.1)), (AV.v (.int .i64 x.2.2.1))]), (AV.agg [(AV.v (.int .i64 x.2.2.2.1)), (AV.v (.int .i64 x.2.2.2.2.1)), (AV.v (.int .i64 x.2.2.2.2.2))])]
  bs := fun x => []
  ret := fun y => ⟨(AV.v (.int .i64 y)), [], none, [], [], []⟩
  t := fun x α k => (match F87_d N (x.1, x.2.1, x.2.2.1) with | some y1 => (match (!y1) with | true => (k 0) | false => (match F87_d N x.2.2.2 with | some y2 => (match (!y2) with | true => (k 0) | false => (match F88_d N (i64 (x.1 - x.2.2.2.1)) with | some y3 => (match F88_d N (i64 (x.2.1 - x.2.2.2.2.1)) with | some y4 => (match F88_d N (i64 (x.2.2.1 - x.2.2.2.2.2)) with | some y5 => (k (i64 ((i64 (y3 + y4)) + y5))) | none => none) | none => none) | none => none)) | none => none)) | none => none)
noncomputable abbrev F76_d (N : Nat) (x : Int × Int × Int × Int × Int × Int) : Option (Int) := (zcQ N).d x
theorem F76_parF (N : Nat) : ParF (zcQ N).t := by
  intro x α β k k' r r' h h1
  revert h
  dsimp only [zcQ]
  (repeat' (first | (with_reducible refine zg ?_ ?_) | (with_reducible refine zc ?_ ?_) | split)) <;> intro h <;> first | exact h1 _ h | (cases h; done)
theorem F76_text (N : Nat) : TxOk (zt Try.prog) (F76_g N) F76_an (lam N []) Try.f76 (zcQ N) := fun x => by kernel_rfl
theorem F76_pat (N : Nat) (a : List AV) (b : List (List AV)) (x : (zcQ N).X) (h : (zcQ N).pat a b = some x) : a = (zcQ N).args x ∧ b = (zcQ N).bs x := by
  obtain ⟨v1, c2, rfl, g0⟩ := zb (show zj _ _ = some x from h)
  obtain ⟨c3, rfl, g1⟩ := zJ g0; clear g0
  obtain ⟨c4, c5, rfl, g2⟩ := zb g1; clear g1
  obtain ⟨a0, rfl, g3⟩ := zi g2; clear g2
  obtain ⟨c6, c7, rfl, g4⟩ := zb g3; clear g3
  obtain ⟨a1, rfl, g5⟩ := zi g4; clear g4
  obtain ⟨c8, c9, rfl, g6⟩ := zb g5; clear g5
  obtain ⟨a2, rfl, g7⟩ := zi g6; clear g6
  obtain ⟨rfl, g8⟩ := ze g7; clear g7
  obtain ⟨v10, c11, rfl, g9⟩ := zb g8; clear g8
  obtain ⟨c12, rfl, g10⟩ := zJ g9; clear g9
  obtain ⟨c13, c14, rfl, g11⟩ := zb g10; clear g10
  obtain ⟨a3, rfl, g12⟩ := zi g11; clear g11
  obtain ⟨c15, c16, rfl, g13⟩ := zb g12; clear g12
  obtain ⟨a4, rfl, g14⟩ := zi g13; clear g13
  obtain ⟨c17, c18, rfl, g15⟩ := zb g14; clear g14
  obtain ⟨a5, rfl, g16⟩ := zi g15; clear g15
  obtain ⟨rfl, g17⟩ := ze g16; clear g16
  obtain ⟨rfl, g18⟩ := ze g17; clear g17
  obtain ⟨rfl, g19⟩ := ze g18; clear g18
  clear h
  cases g19
  exact ⟨rfl, rfl⟩
noncomputable def F76_e (N : Nat) : Ent Try.prog := zB (zf Try.prog) (zk _) zm 76 Try.f76 Try.func76 rfl F76_an (lam N []) (zp (l := []) an (by kernel_rfl)) (zcQ N) (fun _ => ⟨rfl, rfl⟩) (F76_text N) (F76_pat N) (F76_parF N)
def F57_an : Nat → Keep × Keep := anL []
noncomputable def F57_g (N : Nat) : GamK := gam (P := Try.prog) [F33_e N, F14_e N, F75_e N, F76_e N]
noncomputable def zcM (N : Nat) : FSpec where
  X := (List (List AV)) × Int × Int × RT0 × RT0
  Y := Bool
  ash := [[some 4, none, none], [none, none, none, none, none, none, none, none, none, some 9, none, none, none, none, none, none, none, none, none, none, none, none, none, none, none], [none, none, none, none, none, none, none, none, none, some 9, none, none, none, none, none, none, none, none, none, none, none, none, none, none, none]]
  bsh := []
  S := ⟨[[none]], [], [], [], []⟩
  bm := false
  pat := fun a b => zj a fun v1 c2 => Z4 v1 fun c3 => zj c3 fun c4 c5 => pLst 4 c4 fun a0 => zj c5 fun c6 c7 => pInt .i64 c6 fun a1 => zj c7 fun c8 c9 => pInt .i64 c8 fun a2 => pEnd c9 <| zj c2 fun v10 c11 => pAgg RK0 v10 fun a3 => zj c11 fun v12 c13 => pAgg RK0 v12 fun a4 => pEnd c13 <| pEnd b <| some (a0, a1, a2, a3, a4)
  args := fun x => [(AV.agg [(AV.list 4 x.1 none), (AV.v (.int .i64 x.2.1)), (AV.v (.int .i64 x.2.2.1))]), (AV.agg (Ren0 x.2.2.2.1)), (AV.agg (Ren0 x.2.2.2.2))]
  bs := fun x => []
  ret := fun y => ⟨(AV.v (.bool y)), [], none, [], [], []⟩
  t := fun x α k => (match zmA N (x.1, x.2.1, x.2.2.1) with | some y1 => (match (y1 != 0) with | true => (k false) | false => (match zdP N (x.1, x.2.1, x.2.2.1, x.2.2.2.1) with | some y2 => (match zdP N (x.1, x.2.1, x.2.2.1, x.2.2.2.2) with | some y3 => (match (y2 != y3) with | true => (k true) | false => (match F75_d N (x.2.2.2.1.2.2.2.2.2.2.2.2.2.2.2.2.2.2.2.2.2.2.2.2.2.2.1, x.2.2.2.1.2.2.2.2.2.2.2.2.2.2.2.2.2.2.2.2.2.2.2.2.2.2.2.1, x.2.2.2.2.2.2.2.2.2.2.2.2.2.2.2.2.2.2.2.2.2.2.2.2.2.2.1, x.2.2.2.2.2.2.2.2.2.2.2.2.2.2.2.2.2.2.2.2.2.2.2.2.2.2.2.1) with | some y4 => (match (!y4) with | true => (k true) | false => (match (decide (x.2.1 ≤ 4194304)) with | true => (match F76_d N (x.2.2.2.1.2.2.2.2.2.2.2.2.2.2.1, x.2.2.2.1.2.2.2.2.2.2.2.2.2.2.2.1, x.2.2.2.1.2.2.2.2.2.2.2.2.2.2.2.2.1, x.2.2.2.2.2.2.2.2.2.2.2.2.2.2.1, x.2.2.2.2.2.2.2.2.2.2.2.2.2.2.2.1, x.2.2.2.2.2.2.2.2.2.2.2.2.2.2.2.2.1) with | some y5 => (match (decide (y5 > (i64 (x.2.1 * x.2.1)))) with | true => (k true) | false => (k (decide ((if (i64 (x.2.2.2.2.2.2.2.2.2.2.2.2.2.2.2.2.2.1 - x.2.2.2.1.2.2.2.2.2.2.2.2.2.2.2.2.2.1)) > (i64 (x.2.2.2.1.2.2.2.2.2.2.2.2.2.2.2.2.2.1 - x.2.2.2.2.2.2.2.2.2.2.2.2.2.2.2.2.2.1)) then (i64 (x.2.2.2.2.2.2.2.2.2.2.2.2.2.2.2.2.2.1 - x.2.2.2.1.2.2.2.2.2.2.2.2.2.2.2.2.2.1)) else (i64 (x.2.2.2.1.2.2.2.2.2.2.2.2.2.2.2.2.2.1 - x.2.2.2.2.2.2.2.2.2.2.2.2.2.2.2.2.2.1))) > x.2.1)))) | none => none) | false => (k (decide ((if (i64 (x.2.2.2.2.2.2.2.2.2.2.2.2.2.2.2.2.2.1 - x.2.2.2.1.2.2.2.2.2.2.2.2.2.2.2.2.2.1)) > (i64 (x.2.2.2.1.2.2.2.2.2.2.2.2.2.2.2.2.2.1 - x.2.2.2.2.2.2.2.2.2.2.2.2.2.2.2.2.2.1)) then (i64 (x.2.2.2.2.2.2.2.2.2.2.2.2.2.2.2.2.2.1 - x.2.2.2.1.2.2.2.2.2.2.2.2.2.2.2.2.2.1)) else (i64 (x.2.2.2.1.2.2.2.2.2.2.2.2.2.2.2.2.2.1 - x.2.2.2.2.2.2.2.2.2.2.2.2.2.2.2.2.2.1))) > x.2.1))))) | none => none)) | none => none) | none => none)) | none => none)
noncomputable abbrev ziJ (N : Nat) (x : (List (List AV)) × Int × Int × RT0 × RT0) : Option (Bool) := (zcM N).d x
theorem F57_parF (N : Nat) : ParF (zcM N).t := by
  intro x α β k k' r r' h h1
  revert h
  dsimp only [zcM]
  (repeat' (first | (with_reducible refine zg ?_ ?_) | (with_reducible refine zc ?_ ?_) | split)) <;> intro h <;> first | exact h1 _ h | (cases h; done)
theorem F57_text (N : Nat) : TxOk (zt Try.prog) (F57_g N) F57_an (lam N []) Try.f57 (zcM N) := fun x => by kernel_rfl
theorem F57_pat (N : Nat) (a : List AV) (b : List (List AV)) (x : (zcM N).X) (h : (zcM N).pat a b = some x) : a = (zcM N).args x ∧ b = (zcM N).bs x := by
  obtain ⟨v1, c2, rfl, g0⟩ := zb (show zj _ _ = some x from h)
  obtain ⟨c3, rfl, g1⟩ := zJ g0; clear g0
  obtain ⟨c4, c5, rfl, g2⟩ := zb g1; clear g1
  obtain ⟨a0, rfl, g3⟩ := zy g2; clear g2
  obtain ⟨c6, c7, rfl, g4⟩ := zb g3; clear g3
  obtain ⟨a1, rfl, g5⟩ := zi g4; clear g4
  obtain ⟨c8, c9, rfl, g6⟩ := zb g5; clear g5
  obtain ⟨a2, rfl, g7⟩ := zi g6; clear g6
  obtain ⟨rfl, g8⟩ := ze g7; clear g7
  obtain ⟨v10, c11, rfl, g9⟩ := zb g8; clear g8
  obtain ⟨a3, rfl, g10⟩ := j9 g9; clear g9
  obtain ⟨v12, c13, rfl, g11⟩ := zb g10; clear g10
  obtain ⟨a4, rfl, g12⟩ := j9 g11; clear g11
  obtain ⟨rfl, g13⟩ := ze g12; clear g12
  obtain ⟨rfl, g14⟩ := ze g13; clear g13
  clear h
  cases g14
  exact ⟨rfl, rfl⟩
noncomputable def F57_e (N : Nat) : Ent Try.prog := zB (zf Try.prog) (zk _) zm 57 Try.f57 Try.func57 rfl F57_an (lam N []) (zp (l := []) an (by kernel_rfl)) (zcM N) (fun _ => ⟨rfl, rfl⟩) (F57_text N) (F57_pat N) (F57_parF N)
def Zh : Nat → Keep × Keep := anL [(5, ⟨[6], [], [], [(0, 38), (1, 25)], [], [(5, 1)], [], [], false⟩, ⟨[], [], [], [(0, 38), (1, 25)], [], [(5, 1)], [], [], false⟩), (21, ⟨[5, 8], [], [1000005], [(0, 38), (1, 25)], [], [], [], [1000005], false⟩, ⟨[5], [], [1000005], [], [], [], [], [1000005], false⟩), (29, ⟨[5, 8, 9], [], [1000005], [(0, 38), (1, 25)], [], [], [], [1000005], false⟩, ⟨[5, 8], [], [1000005], [(0, 38), (1, 25)], [], [], [], [1000005], false⟩)]
noncomputable def zg9 (N : Nat) : GamK := gam (P := Try.prog) [F13_e N, F58a_e N, F74_e N]
noncomputable def zG (N : Nat) : LSpec where
  X := (List (List AV)) × (List (List AV)) × Nat × Int × Int × (List AV)
  Y := ((List (List AV)) × (List (List AV)) × Nat × Int × (List AV))
  p := fun s => rdS 88 0 [(0, .lst 38), (1, .lst 25), (5, .vs0 1000005 1), (8, .int .i64), (9, .int .i64)] [(1000005, .tt)] s fun ⟨a0, a1, a2, a3, a4, _⟩ ⟨a5, _⟩ => (a0, a1, a2, a3, a4, a5)
  st := fun u29 => mkS 88 [(0, (AV.list 38 u29.1 none)), (1, (AV.list 25 u29.2.1 none)), (5, (AV.vs 1000005 0 u29.2.2.1 1)), (8, (AV.v (.int .i64 u29.2.2.2.1))), (9, (AV.v (.int .i64 u29.2.2.2.2.1)))] [(1000005, u29.2.2.2.2.2)] (Zh 29).1.toks 0
  out := fun y => (.exit 4, mkS 88 [(0, (AV.list 38 y.1 none)), (1, (AV.list 25 y.2.1 none)), (5, (AV.vs 1000005 0 y.2.2.1 1)), (8, (AV.v (.int .i64 y.2.2.2.1)))] [(1000005, y.2.2.2.2)] (Zh 29).2.toks 0)
  sp := fun y α k => k (.exit 4, mkS 88 [(0, (AV.list 38 y.1 none)), (1, (AV.list 25 y.2.1 none)), (5, (AV.vs 1000005 0 y.2.2.1 1)), (8, (AV.v (.int .i64 y.2.2.2.1)))] [(1000005, y.2.2.2.2)] (Zh 29).2.toks 0)
  spe := fun y α k => rfl
  b := fun u29 α kn ke => (match (decide (u29.2.2.2.2.1 < (u29.2.1.length : Int))) with | true => (if 0 ≤ u29.2.2.2.1 ∧ u29.2.2.2.1 < (u29.2.2.1 : Int) then (match u29.2.2.2.2.2[((0 + u29.2.2.2.1.toNat) * 1)]? with | some x24 => (match x24 with | .v (.int q26 n25) => (if q26 = .i64 then (match (decide (n25 < 0)) with | true => (if 0 ≤ u29.2.2.2.1 then (match u29.1[u29.2.2.2.1.toNat]? with | some c27 => (match (c27.drop 1)[0]? with | some x28 => (match x28 with | .v (.bool b29) => (match (!b29) with | true => (match zc8 N (u29.2.2.1, u29.2.2.2.2.1, (u29.2.2.2.2.2.map dat0)) with | some y30 => (match (!y30.1) with | true => (if 0 ≤ u29.2.2.2.1 then (match u29.1[u29.2.2.2.1.toNat]? with | some c31 => (match (((c31.drop 12).drop 9).drop 0)[0]? with | some x32 => (match zbF 9 x32 with | some l33 => (if 0 ≤ u29.2.2.2.2.1 then (match u29.2.1[u29.2.2.2.2.1.toNat]? with | some c34 => (match ((c34.drop 9).drop 0)[0]? with | some x35 => (match zbF 9 x35 with | some l36 => (match F74_d N (l33, l36) with | some y37 => (match y37 with | true => (if 0 ≤ u29.2.2.2.1 ∧ u29.2.2.2.1 < (u29.2.2.1 : Int) then (if ((0 + u29.2.2.2.1.toNat) * 1) + 1 ≤ y30.2.length then (kn (u29.1, u29.2.1, u29.2.2.1, u29.2.2.2.1, (i64 (u29.2.2.2.2.1 + 1)), ((splice y30.2 ((0 + u29.2.2.2.1.toNat) * 1) [(AV.v (.int .i64 u29.2.2.2.2.1))]).map dat0))) else none) else none) | false => (kn (u29.1, u29.2.1, u29.2.2.1, u29.2.2.2.1, (i64 (u29.2.2.2.2.1 + 1)), (y30.2.map dat0)))) | none => none) | none => none) | none => none) | none => none) else none) | none => none) | none => none) | none => none) else none) | false => (kn (u29.1, u29.2.1, u29.2.2.1, u29.2.2.2.1, (i64 (u29.2.2.2.2.1 + 1)), (y30.2.map dat0)))) | none => none) | false => (ke (u29.1, u29.2.1, u29.2.2.1, u29.2.2.2.1, (u29.2.2.2.2.2.map dat0)))) | _ => none) | none => none) | none => none) else none) | false => (ke (u29.1, u29.2.1, u29.2.2.1, u29.2.2.2.1, (u29.2.2.2.2.2.map dat0)))) else none) | _ => none) | none => none) else none) | false => (ke (u29.1, u29.2.1, u29.2.2.1, u29.2.2.2.1, (u29.2.2.2.2.2.map dat0))))
noncomputable abbrev zg1 (N : Nat) (x : (List (List AV)) × (List (List AV)) × Nat × Int × Int × (List AV)) : Option (((List (List AV)) × (List (List AV)) × Nat × Int × (List AV))) := (zG N).L N x
noncomputable def Zg (N : Nat) : LSpec where
  X := (List (List AV)) × (List (List AV)) × Nat × Int × (List AV)
  Y := (Nat × (List AV))
  p := fun s => rdS 88 0 [(0, .lst 38), (1, .lst 25), (5, .vs0 1000005 1), (8, .int .i64)] [(1000005, .tt)] s fun ⟨a0, a1, a2, a3, _⟩ ⟨a4, _⟩ => (a0, a1, a2, a3, a4)
  st := fun u21 => mkS 88 [(0, (AV.list 38 u21.1 none)), (1, (AV.list 25 u21.2.1 none)), (5, (AV.vs 1000005 0 u21.2.2.1 1)), (8, (AV.v (.int .i64 u21.2.2.2.1)))] [(1000005, u21.2.2.2.2)] (Zh 21).1.toks 0
  out := fun y => (.exit 2, mkS 88 [(5, (AV.vs 1000005 0 y.1 1))] [(1000005, y.2)] (Zh 21).2.toks 0)
  sp := fun y α k => k (.exit 2, mkS 88 [(5, (AV.vs 1000005 0 y.1 1))] [(1000005, y.2)] (Zh 21).2.toks 0)
  spe := fun y α k => rfl
  b := fun u21 α kn ke => (match (decide (u21.2.2.2.1 < (u21.1.length : Int))) with | true => (match zg1 N (u21.1, u21.2.1, u21.2.2.1, u21.2.2.2.1, 0, (u21.2.2.2.2.map dat0)) with | some y39 => (kn (y39.1, y39.2.1, y39.2.2.1, (i64 (y39.2.2.2.1 + 1)), (y39.2.2.2.2.map dat0))) | none => none) | false => (ke (u21.2.2.1, (u21.2.2.2.2.map dat0))))
noncomputable abbrev zho (N : Nat) (x : (List (List AV)) × (List (List AV)) × Nat × Int × (List AV)) : Option ((Nat × (List AV))) := (Zg N).L N x
noncomputable def zV (N : Nat) : LSpec where
  X := Nat × (List (List AV)) × (List (List AV)) × Int × (List AV)
  Y := (Nat × (List (List AV)) × (List (List AV)) × (List AV))
  p := fun s => rdS 88 0 [(5, .vs0 1000005 1), (0, .lst 38), (1, .lst 25), (6, .int .i64)] [(1000005, .tt)] s fun ⟨a0, a1, a2, a3, _⟩ ⟨a4, _⟩ => (a0, a1, a2, a3, a4)
  st := fun u5 => mkS 88 [(5, (AV.vs 1000005 0 u5.1 1)), (0, (AV.list 38 u5.2.1 none)), (1, (AV.list 25 u5.2.2.1 none)), (6, (AV.v (.int .i64 u5.2.2.2.1)))] [(1000005, u5.2.2.2.2)] (Zh 5).1.toks 0
  out := fun y => (.exit 0, mkS 88 [(5, (AV.vs 1000005 0 y.1 1)), (0, (AV.list 38 y.2.1 none)), (1, (AV.list 25 y.2.2.1 none))] [(1000005, y.2.2.2)] (Zh 5).2.toks 0)
  sp := fun y α k => k (.exit 0, mkS 88 [(5, (AV.vs 1000005 0 y.1 1)), (0, (AV.list 38 y.2.1 none)), (1, (AV.list 25 y.2.2.1 none))] [(1000005, y.2.2.2)] (Zh 5).2.toks 0)
  spe := fun y α k => rfl
  b := fun u5 α kn ke => (match (decide (u5.2.2.2.1 < (u5.2.1.length : Int))) with | true => (if 0 ≤ u5.2.2.2.1 then (match u5.2.1[u5.2.2.2.1.toNat]? with | some c1 => (match (c1.drop 1)[0]? with | some x2 => (match x2 with | .v (.bool b3) => (match (!b3) with | true => (if 0 ≤ u5.2.2.2.1 then (match u5.2.1[u5.2.2.2.1.toNat]? with | some c4 => (match Rrd1 (c4.drop 2) with | some e5 => (match F13_d N (u5.2.2.1, e5) with | some y6 => (match zc8 N (u5.1, y6, (u5.2.2.2.2.map dat0)) with | some y7 => (match y7.1 with | true => (if u5.1 * 1 ≤ y7.2.length ∧ (u5.1 + [[(AV.v (.int .i64 (-1)))]].length) * 8 ≤ zl then (kn ((u5.1 + [[(AV.v (.int .i64 (-1)))]].length), u5.2.1, u5.2.2.1, (i64 (u5.2.2.2.1 + 1)), ((y7.2.take (u5.1 * 1) ++ [[(AV.v (.int .i64 (-1)))]].flatten).map dat0))) else none) | false => (if u5.1 * 1 ≤ y7.2.length ∧ (u5.1 + [[(AV.v (.int .i64 y6))]].length) * 8 ≤ zl then (kn ((u5.1 + [[(AV.v (.int .i64 y6))]].length), u5.2.1, u5.2.2.1, (i64 (u5.2.2.2.1 + 1)), ((y7.2.take (u5.1 * 1) ++ [[(AV.v (.int .i64 y6))]].flatten).map dat0))) else none)) | none => none) | none => none) | none => none) | none => none) else none) | false => (match zc8 N (u5.1, (-1), (u5.2.2.2.2.map dat0)) with | some y8 => (match y8.1 with | true => (if u5.1 * 1 ≤ y8.2.length ∧ (u5.1 + [[(AV.v (.int .i64 (-1)))]].length) * 8 ≤ zl then (kn ((u5.1 + [[(AV.v (.int .i64 (-1)))]].length), u5.2.1, u5.2.2.1, (i64 (u5.2.2.2.1 + 1)), ((y8.2.take (u5.1 * 1) ++ [[(AV.v (.int .i64 (-1)))]].flatten).map dat0))) else none) | false => (if u5.1 * 1 ≤ y8.2.length ∧ (u5.1 + [[(AV.v (.int .i64 (-1)))]].length) * 8 ≤ zl then (kn ((u5.1 + [[(AV.v (.int .i64 (-1)))]].length), u5.2.1, u5.2.2.1, (i64 (u5.2.2.2.1 + 1)), ((y8.2.take (u5.1 * 1) ++ [[(AV.v (.int .i64 (-1)))]].flatten).map dat0))) else none)) | none => none)) | _ => none) | none => none) | none => none) else none) | false => (ke (u5.1, u5.2.1, u5.2.2.1, (u5.2.2.2.2.map dat0))))
noncomputable abbrev zkr (N : Nat) (x : Nat × (List (List AV)) × (List (List AV)) × Int × (List AV)) : Option ((Nat × (List (List AV)) × (List (List AV)) × (List AV))) := (zV N).L N x
noncomputable def zdl (N : Nat) : FSpec where
  X := (List (List AV)) × (List (List AV))
  Y := Nat × (List AV)
  ash := [[some 38], [some 25]]
  bsh := []
  S := ⟨[[some 1000001]], [], [], [], []⟩
  bm := true
  pat := fun a b => rdA [.lst 38, .lst 25] [] a b fun ⟨a0, a1, _⟩ _ => (a0, a1)
  args := fun x => [(AV.list 38 x.1 none), (AV.list 25 x.2 none)]
  bs := fun x => []
  ret := fun y => ⟨(AV.vs 0 0 y.1 1), [], some y.2, [], [], []⟩
  t := fun x α k => (match zkr N (0, x.1, x.2, 0, ([] : List AV)) with | some y9 => (match zho N (y9.2.1, y9.2.2.1, y9.1, 0, (y9.2.2.2.map dat0)) with | some y40 => (k (y40.1, (y40.2.map dat0))) | none => none) | none => none)
noncomputable abbrev zkg (N : Nat) (x : (List (List AV)) × (List (List AV))) : Option (Nat × (List AV)) := (zdl N).d x
noncomputable def jI (N : Nat) : List (Nat × LSpec) := [(5, zV N), (21, Zg N), (29, zG N)]
noncomputable def jY : Code := Try.f56.body.getD .skip
theorem ziU (N : Nat) : Par (zG N).b := by
  intro x α β kn ke kn' ke' r r' h h1 h2
  revert h
  dsimp only [zG]
  (repeat' (first | (with_reducible refine zg ?_ ?_) | (with_reducible refine zc ?_ ?_) | split)) <;> intro h <;> first | exact h1 _ h | exact h2 _ h | (cases h; done)
theorem zfM (N : Nat) : BdOk (tabB Try.prog [35]) (zg9 N) Zh N (jI N) 29 jY (zG N) := fun x α kn ke => by kernel_rfl
theorem zby (N : Nat) : LpOk Try.prog Zh N (jI N) 29 (zd 29 jY) :=
  zE (zL Try.prog [35]) (zk _) zm Zh N (jI N) 29 jY (l := []) (by kernel_rfl) (by kernel_rfl) an (zG N) rfl (fun s x hc h => by dsimp only [zG] at h; exact zH hc h (fun _ _ => rfl) rfl rfl) (fun _ => rfl) (zfM N) (ziU N)
theorem zh7 (N : Nat) : Par (Zg N).b := by
  intro x α β kn ke kn' ke' r r' h h1 h2
  revert h
  dsimp only [Zg]
  (repeat' (first | (with_reducible refine zg ?_ ?_) | (with_reducible refine zc ?_ ?_) | split)) <;> intro h <;> first | exact h1 _ h | exact h2 _ h | (cases h; done)
theorem zgf (N : Nat) : BdOk (tabB Try.prog [35]) (zg9 N) Zh N (jI N) 21 jY (Zg N) := fun x α kn ke => by kernel_rfl
theorem zfV (N : Nat) : LpOk Try.prog Zh N (jI N) 21 (zd 21 jY) :=
  zE (zL Try.prog [35]) (zk _) zm Zh N (jI N) 21 jY (l := [(29, zd 29 jY)]) (by kernel_rfl) (by kernel_rfl) (al (zby N) an) (Zg N) rfl (fun s x hc h => by dsimp only [Zg] at h; exact zH hc h (fun _ _ => rfl) rfl rfl) (fun _ => rfl) (zgf N) (zh7 N)
theorem zlf (N : Nat) : Par (zV N).b := by
  intro x α β kn ke kn' ke' r r' h h1 h2
  revert h
  dsimp only [zV]
  (repeat' (first | (with_reducible refine zg ?_ ?_) | (with_reducible refine zc ?_ ?_) | split)) <;> intro h <;> first | exact h1 _ h | exact h2 _ h | (cases h; done)
theorem zi4 (N : Nat) : BdOk (tabB Try.prog [35]) (zg9 N) Zh N (jI N) 5 jY (zV N) := fun x α kn ke => by kernel_rfl
theorem zjs (N : Nat) : LpOk Try.prog Zh N (jI N) 5 (zd 5 jY) :=
  zE (zL Try.prog [35]) (zk _) zm Zh N (jI N) 5 jY (l := []) (by kernel_rfl) (by kernel_rfl) an (zV N) rfl (fun s x hc h => by dsimp only [zV] at h; exact zH hc h (fun _ _ => rfl) rfl rfl) (fun _ => rfl) (zi4 N) (zlf N)
theorem zkJ (N : Nat) : ParF (zdl N).t := by
  intro x α β k k' r r' h h1
  revert h
  dsimp only [zdl]
  (repeat' (first | (with_reducible refine zg ?_ ?_) | (with_reducible refine zc ?_ ?_) | split)) <;> intro h <;> first | exact h1 _ h | (cases h; done)
theorem zlT (N : Nat) : TxOk (tabB Try.prog [35]) (zg9 N) Zh (lam N (jI N)) Try.f56 (zdl N) := fun x => by kernel_rfl
noncomputable def F56a_e (N : Nat) : Ent Try.prog := zB (zL Try.prog [35]) (zk _) zm 56 Try.f56 Try.func56 rfl Zh (lam N (jI N)) (zp (l := [(5, zd 5 jY), (21, zd 21 jY), (29, zd 29 jY)]) (al (zjs N) (al (zfV N) (al (zby N) an))) (by kernel_rfl)) (zdl N) (fun _ => ⟨rfl, rfl⟩) (zlT N) (fun _ _ _ h => zA h (fun _ _ => rfl) (fun _ _ => rfl)) (zkJ N)
def F59_an : Nat → Keep × Keep := anL []
noncomputable def F59_g (N : Nat) : GamK := gam (P := Try.prog) [F14_e N]
noncomputable def zcO (N : Nat) : FSpec where
  X := (List (List AV)) × Int × Int × RT0 × Int
  Y := Bool
  ash := [[some 4, none, none], [none, none, none, none, none, none, none, none, none, some 9, none, none, none, none, none, none, none, none, none, none, none, none, none, none, none], [none]]
  bsh := []
  S := ⟨[[none]], [], [], [], []⟩
  bm := false
  pat := fun a b => zj a fun v1 c2 => Z4 v1 fun c3 => zj c3 fun c4 c5 => pLst 4 c4 fun a0 => zj c5 fun c6 c7 => pInt .i64 c6 fun a1 => zj c7 fun c8 c9 => pInt .i64 c8 fun a2 => pEnd c9 <| zj c2 fun v10 c11 => pAgg RK0 v10 fun a3 => zj c11 fun v12 c13 => pInt .i64 v12 fun a4 => pEnd c13 <| pEnd b <| some (a0, a1, a2, a3, a4)
  args := fun x => [(AV.agg [(AV.list 4 x.1 none), (AV.v (.int .i64 x.2.1)), (AV.v (.int .i64 x.2.2.1))]), (AV.agg (Ren0 x.2.2.2.1)), (AV.v (.int .i64 x.2.2.2.2))]
  bs := fun x => []
  ret := fun y => ⟨(AV.v (.bool y)), [], none, [], [], []⟩
  t := fun x α k => (match zdP N (x.1, x.2.1, x.2.2.1, x.2.2.2.1) with | some y1 => (match (y1 == 0) with | true => (k false) | false => (match (decide ((i64 (x.2.2.2.2 - x.2.2.2.1.2.2.2.2.2.2.2.2.2.2.2.2.2.1)) ≥ 0)) with | true => (if 0 ≤ (i64 (y1 - 1)) then (match x.1[(i64 (y1 - 1)).toNat]? with | some c2 => (match (c2.drop 3)[0]? with | some x3 => (match x3 with | .v (.int q5 n4) => (if q5 = .i64 then (k (decide ((i64 (x.2.2.2.2 - x.2.2.2.1.2.2.2.2.2.2.2.2.2.2.2.2.2.1)) ≤ n4))) else none) | _ => none) | none => none) | none => none) else none) | false => (k false))) | none => none)
noncomputable abbrev zmp (N : Nat) (x : (List (List AV)) × Int × Int × RT0 × Int) : Option (Bool) := (zcO N).d x
theorem F59_parF (N : Nat) : ParF (zcO N).t := by
  intro x α β k k' r r' h h1
  revert h
  dsimp only [zcO]
  (repeat' (first | (with_reducible refine zg ?_ ?_) | (with_reducible refine zc ?_ ?_) | split)) <;> intro h <;> first | exact h1 _ h | (cases h; done)
theorem F59_text (N : Nat) : TxOk (zt Try.prog) (F59_g N) F59_an (lam N []) Try.f59 (zcO N) := fun x => by kernel_rfl
theorem F59_pat (N : Nat) (a : List AV) (b : List (List AV)) (x : (zcO N).X) (h : (zcO N).pat a b = some x) : a = (zcO N).args x ∧ b = (zcO N).bs x := by
  obtain ⟨v1, c2, rfl, g0⟩ := zb (show zj _ _ = some x from h)
  obtain ⟨c3, rfl, g1⟩ := zJ g0; clear g0
  obtain ⟨c4, c5, rfl, g2⟩ := zb g1; clear g1
  obtain ⟨a0, rfl, g3⟩ := zy g2; clear g2
  obtain ⟨c6, c7, rfl, g4⟩ := zb g3; clear g3
  obtain ⟨a1, rfl, g5⟩ := zi g4; clear g4
  obtain ⟨c8, c9, rfl, g6⟩ := zb g5; clear g5
  obtain ⟨a2, rfl, g7⟩ := zi g6; clear g6
  obtain ⟨rfl, g8⟩ := ze g7; clear g7
  obtain ⟨v10, c11, rfl, g9⟩ := zb g8; clear g8
  obtain ⟨a3, rfl, g10⟩ := j9 g9; clear g9
  obtain ⟨v12, c13, rfl, g11⟩ := zb g10; clear g10
  obtain ⟨a4, rfl, g12⟩ := zi g11; clear g11
  obtain ⟨rfl, g13⟩ := ze g12; clear g12
  obtain ⟨rfl, g14⟩ := ze g13; clear g13
  clear h
  cases g14
  exact ⟨rfl, rfl⟩
noncomputable def F59_e (N : Nat) : Ent Try.prog := zB (zf Try.prog) (zk _) zm 59 Try.f59 Try.func59 rfl F59_an (lam N []) (zp (l := []) an (by kernel_rfl)) (zcO N) (fun _ => ⟨rfl, rfl⟩) (F59_text N) (F59_pat N) (F59_parF N)
def zP : Nat → Keep × Keep := anL [(12, ⟨[2, 4, 5, 14, 17], [(15, 38), (16, 30)], [5, 34], [(1, 38), (3, 25)], [], [], [], [34], false⟩, ⟨[2, 4, 5, 14], [(15, 38), (16, 30)], [5, 34], [(3, 25)], [], [], [], [34], false⟩), (22, ⟨[2, 4, 5, 14, 17, 18, 19, 49], [(15, 38), (16, 30)], [5, 18, 34], [(1, 38), (3, 25)], [], [], [], [34], true⟩, ⟨[2, 4, 5, 14, 17, 18, 19], [(15, 38), (16, 30)], [5, 18, 34], [(1, 38), (3, 25)], [], [], [], [34], false⟩), (27, ⟨[2, 4, 5, 14, 17, 18, 19, 20, 63], [(15, 38), (16, 30)], [5, 18, 34], [(1, 38), (3, 25)], [], [], [], [34], true⟩, ⟨[2, 4, 5, 14, 17, 18, 19], [(15, 38), (16, 30)], [5, 18, 34], [(1, 38), (3, 25)], [], [], [], [34], false⟩), (28, ⟨[2, 4, 5, 14, 17, 18, 19, 20], [(15, 38), (16, 30)], [5, 18, 34], [(1, 38), (3, 25)], [], [], [], [34], true⟩, ⟨[2, 4, 5, 14, 17, 18, 19], [(15, 38), (16, 30)], [5, 18, 34], [(1, 38), (3, 25)], [], [], [], [34], false⟩), (29, ⟨[2, 4, 5, 14, 17, 18, 19, 20, 66], [(15, 38), (16, 30)], [5, 18, 34], [(1, 38), (3, 25)], [], [], [], [34], true⟩, ⟨[2, 4, 5, 14, 17, 18, 19], [(15, 38), (16, 30)], [5, 18, 34], [(1, 38), (3, 25)], [], [], [], [34], false⟩), (39, ⟨[2, 4, 5, 14, 21], [(15, 38), (16, 30)], [5, 34], [(3, 25)], [], [], [], [34], false⟩, ⟨[2], [(15, 38), (16, 30)], [], [], [], [], [], [], false⟩)]
noncomputable def zfP (N : Nat) : GamK := gam (P := Try.prog) [F55_e N, F56a_e N, F57_e N, F14_e N, F58a_e N, F59_e N]
noncomputable def Za (N : Nat) : LSpec where
  X := (List (List AV)) × (List (List AV)) × (List (List AV)) × Int × Int × Nat × Int × (List (List AV)) × Int × Int × (List AV)
  Y := ((List (List AV)) × (List (List AV)) × Int)
  p := fun s => rdS 207 0 [(15, .tok 38 1280000960), (16, .tok 30 1280001024), (3, .lst 25), (2, .int .i64), (4, .int .i64), (5, .ptr 5 0), (14, .vs0 34 1), (21, .int .i64)] [(5, .cells [.lst 4, .int .i64, .int .i64]), (34, .tt)] s fun ⟨a0, a1, a2, a3, a4, _, a5, a6, _⟩ ⟨⟨a7, a8, a9, _⟩, a10, _⟩ => (a0, a1, a2, a3, a4, a5, a6, a7, a8, a9, a10)
  st := fun u39 => mkS 207 [(15, (AV.list 38 u39.1 (some 1280000960))), (16, (AV.list 30 u39.2.1 (some 1280001024))), (3, (AV.list 25 u39.2.2.1 none)), (2, (AV.v (.int .i64 u39.2.2.2.1))), (4, (AV.v (.int .i64 u39.2.2.2.2.1))), (5, (AV.ptr 5 0)), (14, (AV.vs 34 0 u39.2.2.2.2.2.1 1)), (21, (AV.v (.int .i64 u39.2.2.2.2.2.2.1)))] [(5, [(AV.list 4 u39.2.2.2.2.2.2.2.1 none), (AV.v (.int .i64 u39.2.2.2.2.2.2.2.2.1)), (AV.v (.int .i64 u39.2.2.2.2.2.2.2.2.2.1))]), (34, u39.2.2.2.2.2.2.2.2.2.2)] (zP 39).1.toks 0
  out := fun y => (.exit 3, mkS 207 [(15, (AV.list 38 y.1 (some 1280000960))), (16, (AV.list 30 y.2.1 (some 1280001024))), (2, (AV.v (.int .i64 y.2.2)))] [] (zP 39).2.toks 0)
  sp := fun y α k => k (.exit 3, mkS 207 [(15, (AV.list 38 y.1 (some 1280000960))), (16, (AV.list 30 y.2.1 (some 1280001024))), (2, (AV.v (.int .i64 y.2.2)))] [] (zP 39).2.toks 0)
  spe := fun y α k => rfl
  b := fun u39 α kn ke => (match (decide (u39.2.2.2.2.2.2.1 < (u39.2.2.1.length : Int))) with | true => (match zc8 N (u39.2.2.2.2.2.1, u39.2.2.2.2.2.2.1, (u39.2.2.2.2.2.2.2.2.2.2.map dat0)) with | some y81 => (match y81.1 with | true => (kn (u39.1, u39.2.1, u39.2.2.1, u39.2.2.2.1, u39.2.2.2.2.1, u39.2.2.2.2.2.1, (i64 (u39.2.2.2.2.2.2.1 + 1)), u39.2.2.2.2.2.2.2.1, u39.2.2.2.2.2.2.2.2.1, u39.2.2.2.2.2.2.2.2.2.1, (y81.2.map dat0))) | false => (if 0 ≤ u39.2.2.2.2.2.2.1 then (match u39.2.2.1[u39.2.2.2.2.2.2.1.toNat]? with | some c82 => (match Rrd0 c82 with | some e83 => (match zmp N (u39.2.2.2.2.2.2.2.1, u39.2.2.2.2.2.2.2.2.1, u39.2.2.2.2.2.2.2.2.2.1, e83, u39.2.2.2.2.1) with | some y84 => (match (!y84) with | true => (kn (u39.1, u39.2.1, u39.2.2.1, u39.2.2.2.1, u39.2.2.2.2.1, u39.2.2.2.2.2.1, (i64 (u39.2.2.2.2.2.2.1 + 1)), u39.2.2.2.2.2.2.2.1, u39.2.2.2.2.2.2.2.2.1, u39.2.2.2.2.2.2.2.2.2.1, (y81.2.map dat0))) | false => (if 0 ≤ u39.2.2.2.2.2.2.1 then (match u39.2.2.1[u39.2.2.2.2.2.2.1.toNat]? with | some c85 => (match Rrd1 (c85.drop 0) with | some e86 => (if 0 ≤ u39.2.2.2.2.2.2.1 then (match u39.2.2.1[u39.2.2.2.2.2.2.1.toNat]? with | some c87 => (match Rrd0 c87 with | some e88 => (match zdP N (u39.2.2.2.2.2.2.2.1, u39.2.2.2.2.2.2.2.2.1, u39.2.2.2.2.2.2.2.2.2.1, e88) with | some y89 => (if 0 ≤ u39.2.2.2.2.2.2.1 then (match u39.2.2.1[u39.2.2.2.2.2.2.1.toNat]? with | some c90 => (match Rrd0 c90 with | some e91 => (if (u39.2.1.length + [(Ren6 ((i64 (u39.2.2.2.1 + (u39.2.1.length : Int))), 1, (i64 (u39.2.2.2.1 + (u39.2.1.length : Int))), u39.2.2.2.2.1, y89, e91.1, e91.2.1, e91.2.2.1, e91.2.2.2.1, e91.2.2.2.2.1, e91.2.2.2.2.2.1, e91.2.2.2.2.2.2.1, e91.2.2.2.2.2.2.2.1, e91.2.2.2.2.2.2.2.2.1, e91.2.2.2.2.2.2.2.2.2.1, e91.2.2.2.2.2.2.2.2.2.2.1, e91.2.2.2.2.2.2.2.2.2.2.2.1, e91.2.2.2.2.2.2.2.2.2.2.2.2.1, e91.2.2.2.2.2.2.2.2.2.2.2.2.2.1, e91.2.2.2.2.2.2.2.2.2.2.2.2.2.2.1, e91.2.2.2.2.2.2.2.2.2.2.2.2.2.2.2.1, e91.2.2.2.2.2.2.2.2.2.2.2.2.2.2.2.2.1, e91.2.2.2.2.2.2.2.2.2.2.2.2.2.2.2.2.2.1, e91.2.2.2.2.2.2.2.2.2.2.2.2.2.2.2.2.2.2.1, e91.2.2.2.2.2.2.2.2.2.2.2.2.2.2.2.2.2.2.2.1, e91.2.2.2.2.2.2.2.2.2.2.2.2.2.2.2.2.2.2.2.2.1, e91.2.2.2.2.2.2.2.2.2.2.2.2.2.2.2.2.2.2.2.2.2.1, e91.2.2.2.2.2.2.2.2.2.2.2.2.2.2.2.2.2.2.2.2.2.2.1, e91.2.2.2.2.2.2.2.2.2.2.2.2.2.2.2.2.2.2.2.2.2.2.2.1, e91.2.2.2.2.2.2.2.2.2.2.2.2.2.2.2.2.2.2.2.2.2.2.2.2.1, ()))].length) * 288 ≤ zl then (if (u39.1.length + [(Ren3 ((i64 (u39.2.2.2.1 + (u39.2.1.length : Int))), false, e86.1, e86.2.1, e86.2.2.1, e86.2.2.2.1, e86.2.2.2.2.1, e86.2.2.2.2.2.1, e86.2.2.2.2.2.2.1, e86.2.2.2.2.2.2.2.1, e86.2.2.2.2.2.2.2.2.1, y89, e91.1, e91.2.1, e91.2.2.1, e91.2.2.2.1, e91.2.2.2.2.1, e91.2.2.2.2.2.1, e91.2.2.2.2.2.2.1, e91.2.2.2.2.2.2.2.1, e91.2.2.2.2.2.2.2.2.1, e91.2.2.2.2.2.2.2.2.2.1, e91.2.2.2.2.2.2.2.2.2.2.1, e91.2.2.2.2.2.2.2.2.2.2.2.1, e91.2.2.2.2.2.2.2.2.2.2.2.2.1, e91.2.2.2.2.2.2.2.2.2.2.2.2.2.1, e91.2.2.2.2.2.2.2.2.2.2.2.2.2.2.1, e91.2.2.2.2.2.2.2.2.2.2.2.2.2.2.2.1, e91.2.2.2.2.2.2.2.2.2.2.2.2.2.2.2.2.1, e91.2.2.2.2.2.2.2.2.2.2.2.2.2.2.2.2.2.1, e91.2.2.2.2.2.2.2.2.2.2.2.2.2.2.2.2.2.2.1, e91.2.2.2.2.2.2.2.2.2.2.2.2.2.2.2.2.2.2.2.1, e91.2.2.2.2.2.2.2.2.2.2.2.2.2.2.2.2.2.2.2.2.1, e91.2.2.2.2.2.2.2.2.2.2.2.2.2.2.2.2.2.2.2.2.2.1, e91.2.2.2.2.2.2.2.2.2.2.2.2.2.2.2.2.2.2.2.2.2.2.1, e91.2.2.2.2.2.2.2.2.2.2.2.2.2.2.2.2.2.2.2.2.2.2.2.1, e91.2.2.2.2.2.2.2.2.2.2.2.2.2.2.2.2.2.2.2.2.2.2.2.2.1, u39.2.2.2.2.1, ()))].length) * 384 ≤ zl then (kn ((u39.1 ++ [(Ren3 ((i64 (u39.2.2.2.1 + (u39.2.1.length : Int))), false, e86.1, e86.2.1, e86.2.2.1, e86.2.2.2.1, e86.2.2.2.2.1, e86.2.2.2.2.2.1, e86.2.2.2.2.2.2.1, e86.2.2.2.2.2.2.2.1, e86.2.2.2.2.2.2.2.2.1, y89, e91.1, e91.2.1, e91.2.2.1, e91.2.2.2.1, e91.2.2.2.2.1, e91.2.2.2.2.2.1, e91.2.2.2.2.2.2.1, e91.2.2.2.2.2.2.2.1, e91.2.2.2.2.2.2.2.2.1, e91.2.2.2.2.2.2.2.2.2.1, e91.2.2.2.2.2.2.2.2.2.2.1, e91.2.2.2.2.2.2.2.2.2.2.2.1, e91.2.2.2.2.2.2.2.2.2.2.2.2.1, e91.2.2.2.2.2.2.2.2.2.2.2.2.2.1, e91.2.2.2.2.2.2.2.2.2.2.2.2.2.2.1, e91.2.2.2.2.2.2.2.2.2.2.2.2.2.2.2.1, e91.2.2.2.2.2.2.2.2.2.2.2.2.2.2.2.2.1, e91.2.2.2.2.2.2.2.2.2.2.2.2.2.2.2.2.2.1, e91.2.2.2.2.2.2.2.2.2.2.2.2.2.2.2.2.2.2.1, e91.2.2.2.2.2.2.2.2.2.2.2.2.2.2.2.2.2.2.2.1, e91.2.2.2.2.2.2.2.2.2.2.2.2.2.2.2.2.2.2.2.2.1, e91.2.2.2.2.2.2.2.2.2.2.2.2.2.2.2.2.2.2.2.2.2.1, e91.2.2.2.2.2.2.2.2.2.2.2.2.2.2.2.2.2.2.2.2.2.2.1, e91.2.2.2.2.2.2.2.2.2.2.2.2.2.2.2.2.2.2.2.2.2.2.2.1, e91.2.2.2.2.2.2.2.2.2.2.2.2.2.2.2.2.2.2.2.2.2.2.2.2.1, u39.2.2.2.2.1, ()))]), (u39.2.1 ++ [(Ren6 ((i64 (u39.2.2.2.1 + (u39.2.1.length : Int))), 1, (i64 (u39.2.2.2.1 + (u39.2.1.length : Int))), u39.2.2.2.2.1, y89, e91.1, e91.2.1, e91.2.2.1, e91.2.2.2.1, e91.2.2.2.2.1, e91.2.2.2.2.2.1, e91.2.2.2.2.2.2.1, e91.2.2.2.2.2.2.2.1, e91.2.2.2.2.2.2.2.2.1, e91.2.2.2.2.2.2.2.2.2.1, e91.2.2.2.2.2.2.2.2.2.2.1, e91.2.2.2.2.2.2.2.2.2.2.2.1, e91.2.2.2.2.2.2.2.2.2.2.2.2.1, e91.2.2.2.2.2.2.2.2.2.2.2.2.2.1, e91.2.2.2.2.2.2.2.2.2.2.2.2.2.2.1, e91.2.2.2.2.2.2.2.2.2.2.2.2.2.2.2.1, e91.2.2.2.2.2.2.2.2.2.2.2.2.2.2.2.2.1, e91.2.2.2.2.2.2.2.2.2.2.2.2.2.2.2.2.2.1, e91.2.2.2.2.2.2.2.2.2.2.2.2.2.2.2.2.2.2.1, e91.2.2.2.2.2.2.2.2.2.2.2.2.2.2.2.2.2.2.2.1, e91.2.2.2.2.2.2.2.2.2.2.2.2.2.2.2.2.2.2.2.2.1, e91.2.2.2.2.2.2.2.2.2.2.2.2.2.2.2.2.2.2.2.2.2.1, e91.2.2.2.2.2.2.2.2.2.2.2.2.2.2.2.2.2.2.2.2.2.2.1, e91.2.2.2.2.2.2.2.2.2.2.2.2.2.2.2.2.2.2.2.2.2.2.2.1, e91.2.2.2.2.2.2.2.2.2.2.2.2.2.2.2.2.2.2.2.2.2.2.2.2.1, ()))]), u39.2.2.1, u39.2.2.2.1, u39.2.2.2.2.1, u39.2.2.2.2.2.1, (i64 (u39.2.2.2.2.2.2.1 + 1)), u39.2.2.2.2.2.2.2.1, u39.2.2.2.2.2.2.2.2.1, u39.2.2.2.2.2.2.2.2.2.1, (y81.2.map dat0))) else none) else none) | none => none) | none => none) else none) | none => none) | none => none) | none => none) else none) | none => none) | none => none) else none)) | none => none) | none => none) | none => none) else none)) | none => none) | false => (ke (u39.1, u39.2.1, u39.2.2.2.1)))
noncomputable abbrev zm0 (N : Nat) (x : (List (List AV)) × (List (List AV)) × (List (List AV)) × Int × Int × Nat × Int × (List (List AV)) × Int × Int × (List AV)) : Option (((List (List AV)) × (List (List AV)) × Int)) := (Za N).L N x
noncomputable def jg (N : Nat) : LSpec where
  X := (List (List AV)) × (List (List AV)) × (List (List AV)) × (List (List AV)) × Int × Int × Nat × Int × Int × Int × Bool × (List (List AV)) × Int × Int × RT3 × (List AV)
  Y := ((List (List AV)) × (List (List AV)) × (List (List AV)) × (List (List AV)) × Int × Int × Nat × Int × Int × (List (List AV)) × Int × Int × RT3 × (List AV))
  p := fun s => rdS 207 0 [(15, .tok 38 1280000960), (16, .tok 30 1280001024), (1, .lst 38), (3, .lst 25), (2, .int .i64), (4, .int .i64), (5, .ptr 5 0), (14, .vs0 34 1), (17, .int .i64), (18, .ptr 18 0), (19, .int .i64), (20, .int .i64), (66, .bool)] [(5, .cells [.lst 4, .int .i64, .int .i64]), (18, .row RK3), (34, .tt)] s fun ⟨a0, a1, a2, a3, a4, a5, _, a6, a7, _, a8, a9, a10, _⟩ ⟨⟨a11, a12, a13, _⟩, a14, a15, _⟩ => (a0, a1, a2, a3, a4, a5, a6, a7, a8, a9, a10, a11, a12, a13, a14, a15)
  st := fun u29 => mkS 207 [(15, (AV.list 38 u29.1 (some 1280000960))), (16, (AV.list 30 u29.2.1 (some 1280001024))), (1, (AV.list 38 u29.2.2.1 none)), (3, (AV.list 25 u29.2.2.2.1 none)), (2, (AV.v (.int .i64 u29.2.2.2.2.1))), (4, (AV.v (.int .i64 u29.2.2.2.2.2.1))), (5, (AV.ptr 5 0)), (14, (AV.vs 34 0 u29.2.2.2.2.2.2.1 1)), (17, (AV.v (.int .i64 u29.2.2.2.2.2.2.2.1))), (18, (AV.ptr 18 0)), (19, (AV.v (.int .i64 u29.2.2.2.2.2.2.2.2.1))), (20, (AV.v (.int .i64 u29.2.2.2.2.2.2.2.2.2.1))), (66, (AV.v (.bool u29.2.2.2.2.2.2.2.2.2.2.1)))] [(5, [(AV.list 4 u29.2.2.2.2.2.2.2.2.2.2.2.1 none), (AV.v (.int .i64 u29.2.2.2.2.2.2.2.2.2.2.2.2.1)), (AV.v (.int .i64 u29.2.2.2.2.2.2.2.2.2.2.2.2.2.1))]), (18, (Ren3 u29.2.2.2.2.2.2.2.2.2.2.2.2.2.2.1)), (34, u29.2.2.2.2.2.2.2.2.2.2.2.2.2.2.2)] (zP 29).1.toks 0
  out := fun y => (.normal, mkS 207 [(15, (AV.list 38 y.1 (some 1280000960))), (16, (AV.list 30 y.2.1 (some 1280001024))), (1, (AV.list 38 y.2.2.1 none)), (3, (AV.list 25 y.2.2.2.1 none)), (2, (AV.v (.int .i64 y.2.2.2.2.1))), (4, (AV.v (.int .i64 y.2.2.2.2.2.1))), (5, (AV.ptr 5 0)), (14, (AV.vs 34 0 y.2.2.2.2.2.2.1 1)), (17, (AV.v (.int .i64 y.2.2.2.2.2.2.2.1))), (18, (AV.ptr 18 0)), (19, (AV.v (.int .i64 y.2.2.2.2.2.2.2.2.1)))] [(5, [(AV.list 4 y.2.2.2.2.2.2.2.2.2.1 none), (AV.v (.int .i64 y.2.2.2.2.2.2.2.2.2.2.1)), (AV.v (.int .i64 y.2.2.2.2.2.2.2.2.2.2.2.1))]), (18, (Ren3 y.2.2.2.2.2.2.2.2.2.2.2.2.1)), (34, y.2.2.2.2.2.2.2.2.2.2.2.2.2)] (zP 29).2.toks 0)
  sp := fun y α k => k (.normal, mkS 207 [(15, (AV.list 38 y.1 (some 1280000960))), (16, (AV.list 30 y.2.1 (some 1280001024))), (1, (AV.list 38 y.2.2.1 none)), (3, (AV.list 25 y.2.2.2.1 none)), (2, (AV.v (.int .i64 y.2.2.2.2.1))), (4, (AV.v (.int .i64 y.2.2.2.2.2.1))), (5, (AV.ptr 5 0)), (14, (AV.vs 34 0 y.2.2.2.2.2.2.1 1)), (17, (AV.v (.int .i64 y.2.2.2.2.2.2.2.1))), (18, (AV.ptr 18 0)), (19, (AV.v (.int .i64 y.2.2.2.2.2.2.2.2.1)))] [(5, [(AV.list 4 y.2.2.2.2.2.2.2.2.2.1 none), (AV.v (.int .i64 y.2.2.2.2.2.2.2.2.2.2.1)), (AV.v (.int .i64 y.2.2.2.2.2.2.2.2.2.2.2.1))]), (18, (Ren3 y.2.2.2.2.2.2.2.2.2.2.2.2.1)), (34, y.2.2.2.2.2.2.2.2.2.2.2.2.2)] (zP 29).2.toks 0)
  spe := fun y α k => rfl
  b := fun u29 α kn ke => (match u29.2.2.2.2.2.2.2.2.2.2.1 with | true => (ke (u29.1, u29.2.1, u29.2.2.1, u29.2.2.2.1, u29.2.2.2.2.1, u29.2.2.2.2.2.1, u29.2.2.2.2.2.2.1, u29.2.2.2.2.2.2.2.1, 3, u29.2.2.2.2.2.2.2.2.2.2.2.1, u29.2.2.2.2.2.2.2.2.2.2.2.2.1, u29.2.2.2.2.2.2.2.2.2.2.2.2.2.1, (u29.2.2.2.2.2.2.2.2.2.2.2.2.2.2.1.1, true, u29.2.2.2.2.2.2.2.2.2.2.2.2.2.2.1.2.2), (u29.2.2.2.2.2.2.2.2.2.2.2.2.2.2.2.map dat0))) | false => (if 0 ≤ u29.2.2.2.2.2.2.2.2.2.1 then (match u29.2.2.2.1[u29.2.2.2.2.2.2.2.2.2.1.toNat]? with | some c43 => (match Rrd0 c43 with | some e44 => (match ziJ N (u29.2.2.2.2.2.2.2.2.2.2.2.1, u29.2.2.2.2.2.2.2.2.2.2.2.2.1, u29.2.2.2.2.2.2.2.2.2.2.2.2.2.1, (jU u29.2.2.2.2.2.2.2.2.2.2.2.2.2.2.1), e44) with | some y45 => (match y45 with | true => (match (decide ((i64 (u29.2.2.2.2.2.1 - u29.2.2.2.2.2.2.2.2.2.2.2.2.2.2.1.2.2.2.2.2.2.2.2.2.2.2.2.2.2.2.2.2.2.2.2.2.2.2.2.2.2.2.2.2.2.2.2.2.2.2.2.2.1)) ≥ u29.2.2.2.2.2.2.2.2.2.2.2.2.2.1)) with | true => (if 0 ≤ u29.2.2.2.2.2.2.2.2.2.1 then (match u29.2.2.2.1[u29.2.2.2.2.2.2.2.2.2.1.toNat]? with | some c46 => (match Rrd0 c46 with | some e47 => (match zdP N (u29.2.2.2.2.2.2.2.2.2.2.2.1, u29.2.2.2.2.2.2.2.2.2.2.2.2.1, u29.2.2.2.2.2.2.2.2.2.2.2.2.2.1, e47) with | some y48 => (if 0 ≤ u29.2.2.2.2.2.2.2.2.2.1 then (match u29.2.2.2.1[u29.2.2.2.2.2.2.2.2.2.1.toNat]? with | some c49 => (match Rrd0 c49 with | some e50 => (ke (u29.1, u29.2.1, u29.2.2.1, u29.2.2.2.1, u29.2.2.2.2.1, u29.2.2.2.2.2.1, u29.2.2.2.2.2.2.1, u29.2.2.2.2.2.2.2.1, 2, u29.2.2.2.2.2.2.2.2.2.2.2.1, u29.2.2.2.2.2.2.2.2.2.2.2.2.1, u29.2.2.2.2.2.2.2.2.2.2.2.2.2.1, (u29.2.2.2.2.2.2.2.2.2.2.2.2.2.2.1.1, u29.2.2.2.2.2.2.2.2.2.2.2.2.2.2.1.2.1, u29.2.2.2.2.2.2.2.2.2.2.2.2.2.2.1.2.2.1, u29.2.2.2.2.2.2.2.2.2.2.2.2.2.2.1.2.2.2.1, u29.2.2.2.2.2.2.2.2.2.2.2.2.2.2.1.2.2.2.2.1, u29.2.2.2.2.2.2.2.2.2.2.2.2.2.2.1.2.2.2.2.2.1, u29.2.2.2.2.2.2.2.2.2.2.2.2.2.2.1.2.2.2.2.2.2.1, u29.2.2.2.2.2.2.2.2.2.2.2.2.2.2.1.2.2.2.2.2.2.2.1, u29.2.2.2.2.2.2.2.2.2.2.2.2.2.2.1.2.2.2.2.2.2.2.2.1, u29.2.2.2.2.2.2.2.2.2.2.2.2.2.2.1.2.2.2.2.2.2.2.2.2.1, u29.2.2.2.2.2.2.2.2.2.2.2.2.2.2.1.2.2.2.2.2.2.2.2.2.2.1, y48, e50.1, e50.2.1, e50.2.2.1, e50.2.2.2.1, e50.2.2.2.2.1, e50.2.2.2.2.2.1, e50.2.2.2.2.2.2.1, e50.2.2.2.2.2.2.2.1, e50.2.2.2.2.2.2.2.2.1, e50.2.2.2.2.2.2.2.2.2.1, e50.2.2.2.2.2.2.2.2.2.2.1, e50.2.2.2.2.2.2.2.2.2.2.2.1, e50.2.2.2.2.2.2.2.2.2.2.2.2.1, e50.2.2.2.2.2.2.2.2.2.2.2.2.2.1, e50.2.2.2.2.2.2.2.2.2.2.2.2.2.2.1, e50.2.2.2.2.2.2.2.2.2.2.2.2.2.2.2.1, e50.2.2.2.2.2.2.2.2.2.2.2.2.2.2.2.2.1, e50.2.2.2.2.2.2.2.2.2.2.2.2.2.2.2.2.2.1, e50.2.2.2.2.2.2.2.2.2.2.2.2.2.2.2.2.2.2.1, e50.2.2.2.2.2.2.2.2.2.2.2.2.2.2.2.2.2.2.2.1, e50.2.2.2.2.2.2.2.2.2.2.2.2.2.2.2.2.2.2.2.2.1, e50.2.2.2.2.2.2.2.2.2.2.2.2.2.2.2.2.2.2.2.2.2.1, e50.2.2.2.2.2.2.2.2.2.2.2.2.2.2.2.2.2.2.2.2.2.2.1, e50.2.2.2.2.2.2.2.2.2.2.2.2.2.2.2.2.2.2.2.2.2.2.2.1, e50.2.2.2.2.2.2.2.2.2.2.2.2.2.2.2.2.2.2.2.2.2.2.2.2.1, u29.2.2.2.2.2.2.2.2.2.2.2.2.2.2.1.2.2.2.2.2.2.2.2.2.2.2.2.2.2.2.2.2.2.2.2.2.2.2.2.2.2.2.2.2.2.2.2.2.2.2.2.2), (u29.2.2.2.2.2.2.2.2.2.2.2.2.2.2.2.map dat0))) | none => none) | none => none) else none) | none => none) | none => none) | none => none) else none) | false => (ke (u29.1, u29.2.1, u29.2.2.1, u29.2.2.2.1, u29.2.2.2.2.1, u29.2.2.2.2.2.1, u29.2.2.2.2.2.2.1, u29.2.2.2.2.2.2.2.1, u29.2.2.2.2.2.2.2.2.1, u29.2.2.2.2.2.2.2.2.2.2.2.1, u29.2.2.2.2.2.2.2.2.2.2.2.2.1, u29.2.2.2.2.2.2.2.2.2.2.2.2.2.1, u29.2.2.2.2.2.2.2.2.2.2.2.2.2.2.1, (u29.2.2.2.2.2.2.2.2.2.2.2.2.2.2.2.map dat0)))) | false => (ke (u29.1, u29.2.1, u29.2.2.1, u29.2.2.2.1, u29.2.2.2.2.1, u29.2.2.2.2.2.1, u29.2.2.2.2.2.2.1, u29.2.2.2.2.2.2.2.1, u29.2.2.2.2.2.2.2.2.1, u29.2.2.2.2.2.2.2.2.2.2.2.1, u29.2.2.2.2.2.2.2.2.2.2.2.2.1, u29.2.2.2.2.2.2.2.2.2.2.2.2.2.1, u29.2.2.2.2.2.2.2.2.2.2.2.2.2.2.1, (u29.2.2.2.2.2.2.2.2.2.2.2.2.2.2.2.map dat0)))) | none => none) | none => none) | none => none) else none))
noncomputable abbrev zeq (N : Nat) (x : (List (List AV)) × (List (List AV)) × (List (List AV)) × (List (List AV)) × Int × Int × Nat × Int × Int × Int × Bool × (List (List AV)) × Int × Int × RT3 × (List AV)) : Option (((List (List AV)) × (List (List AV)) × (List (List AV)) × (List (List AV)) × Int × Int × Nat × Int × Int × (List (List AV)) × Int × Int × RT3 × (List AV))) := (jg N).L N x
noncomputable def jk (N : Nat) : LSpec where
  X := (List (List AV)) × (List (List AV)) × (List (List AV)) × (List (List AV)) × Int × Int × Nat × Int × Int × Int × (List (List AV)) × Int × Int × RT3 × (List AV)
  Y := ((List (List AV)) × (List (List AV)) × (List (List AV)) × (List (List AV)) × Int × Int × Nat × Int × Int × (List (List AV)) × Int × Int × RT3 × (List AV))
  p := fun s => rdS 207 0 [(15, .tok 38 1280000960), (16, .tok 30 1280001024), (1, .lst 38), (3, .lst 25), (2, .int .i64), (4, .int .i64), (5, .ptr 5 0), (14, .vs0 34 1), (17, .int .i64), (18, .ptr 18 0), (19, .int .i64), (20, .int .i64)] [(5, .cells [.lst 4, .int .i64, .int .i64]), (18, .row RK3), (34, .tt)] s fun ⟨a0, a1, a2, a3, a4, a5, _, a6, a7, _, a8, a9, _⟩ ⟨⟨a10, a11, a12, _⟩, a13, a14, _⟩ => (a0, a1, a2, a3, a4, a5, a6, a7, a8, a9, a10, a11, a12, a13, a14)
  st := fun u28 => mkS 207 [(15, (AV.list 38 u28.1 (some 1280000960))), (16, (AV.list 30 u28.2.1 (some 1280001024))), (1, (AV.list 38 u28.2.2.1 none)), (3, (AV.list 25 u28.2.2.2.1 none)), (2, (AV.v (.int .i64 u28.2.2.2.2.1))), (4, (AV.v (.int .i64 u28.2.2.2.2.2.1))), (5, (AV.ptr 5 0)), (14, (AV.vs 34 0 u28.2.2.2.2.2.2.1 1)), (17, (AV.v (.int .i64 u28.2.2.2.2.2.2.2.1))), (18, (AV.ptr 18 0)), (19, (AV.v (.int .i64 u28.2.2.2.2.2.2.2.2.1))), (20, (AV.v (.int .i64 u28.2.2.2.2.2.2.2.2.2.1)))] [(5, [(AV.list 4 u28.2.2.2.2.2.2.2.2.2.2.1 none), (AV.v (.int .i64 u28.2.2.2.2.2.2.2.2.2.2.2.1)), (AV.v (.int .i64 u28.2.2.2.2.2.2.2.2.2.2.2.2.1))]), (18, (Ren3 u28.2.2.2.2.2.2.2.2.2.2.2.2.2.1)), (34, u28.2.2.2.2.2.2.2.2.2.2.2.2.2.2)] (zP 28).1.toks 0
  out := fun y => (.normal, mkS 207 [(15, (AV.list 38 y.1 (some 1280000960))), (16, (AV.list 30 y.2.1 (some 1280001024))), (1, (AV.list 38 y.2.2.1 none)), (3, (AV.list 25 y.2.2.2.1 none)), (2, (AV.v (.int .i64 y.2.2.2.2.1))), (4, (AV.v (.int .i64 y.2.2.2.2.2.1))), (5, (AV.ptr 5 0)), (14, (AV.vs 34 0 y.2.2.2.2.2.2.1 1)), (17, (AV.v (.int .i64 y.2.2.2.2.2.2.2.1))), (18, (AV.ptr 18 0)), (19, (AV.v (.int .i64 y.2.2.2.2.2.2.2.2.1)))] [(5, [(AV.list 4 y.2.2.2.2.2.2.2.2.2.1 none), (AV.v (.int .i64 y.2.2.2.2.2.2.2.2.2.2.1)), (AV.v (.int .i64 y.2.2.2.2.2.2.2.2.2.2.2.1))]), (18, (Ren3 y.2.2.2.2.2.2.2.2.2.2.2.2.1)), (34, y.2.2.2.2.2.2.2.2.2.2.2.2.2)] (zP 28).2.toks 0)
  sp := fun y α k => k (.normal, mkS 207 [(15, (AV.list 38 y.1 (some 1280000960))), (16, (AV.list 30 y.2.1 (some 1280001024))), (1, (AV.list 38 y.2.2.1 none)), (3, (AV.list 25 y.2.2.2.1 none)), (2, (AV.v (.int .i64 y.2.2.2.2.1))), (4, (AV.v (.int .i64 y.2.2.2.2.2.1))), (5, (AV.ptr 5 0)), (14, (AV.vs 34 0 y.2.2.2.2.2.2.1 1)), (17, (AV.v (.int .i64 y.2.2.2.2.2.2.2.1))), (18, (AV.ptr 18 0)), (19, (AV.v (.int .i64 y.2.2.2.2.2.2.2.2.1)))] [(5, [(AV.list 4 y.2.2.2.2.2.2.2.2.2.1 none), (AV.v (.int .i64 y.2.2.2.2.2.2.2.2.2.2.1)), (AV.v (.int .i64 y.2.2.2.2.2.2.2.2.2.2.2.1))]), (18, (Ren3 y.2.2.2.2.2.2.2.2.2.2.2.2.1)), (34, y.2.2.2.2.2.2.2.2.2.2.2.2.2)] (zP 28).2.toks 0)
  spe := fun y α k => rfl
  b := fun u28 α kn ke => (match (decide (u28.2.2.2.2.2.2.2.2.2.1 < 0)) with | true => (match zeq N (u28.1, u28.2.1, u28.2.2.1, u28.2.2.2.1, u28.2.2.2.2.1, u28.2.2.2.2.2.1, u28.2.2.2.2.2.2.1, u28.2.2.2.2.2.2.2.1, u28.2.2.2.2.2.2.2.2.1, u28.2.2.2.2.2.2.2.2.2.1, true, u28.2.2.2.2.2.2.2.2.2.2.1, u28.2.2.2.2.2.2.2.2.2.2.2.1, u28.2.2.2.2.2.2.2.2.2.2.2.2.1, u28.2.2.2.2.2.2.2.2.2.2.2.2.2.1, (u28.2.2.2.2.2.2.2.2.2.2.2.2.2.2.map dat0)) with | some y61 => (ke (y61.1, y61.2.1, y61.2.2.1, y61.2.2.2.1, y61.2.2.2.2.1, y61.2.2.2.2.2.1, y61.2.2.2.2.2.2.1, y61.2.2.2.2.2.2.2.1, y61.2.2.2.2.2.2.2.2.1, y61.2.2.2.2.2.2.2.2.2.1, y61.2.2.2.2.2.2.2.2.2.2.1, y61.2.2.2.2.2.2.2.2.2.2.2.1, y61.2.2.2.2.2.2.2.2.2.2.2.2.1, (y61.2.2.2.2.2.2.2.2.2.2.2.2.2.map dat0))) | none => none) | false => (if 0 ≤ u28.2.2.2.2.2.2.2.2.2.1 then (match u28.2.2.2.1[u28.2.2.2.2.2.2.2.2.2.1.toNat]? with | some c62 => (match Rrd0 c62 with | some e63 => (match zdP N (u28.2.2.2.2.2.2.2.2.2.2.1, u28.2.2.2.2.2.2.2.2.2.2.2.1, u28.2.2.2.2.2.2.2.2.2.2.2.2.1, e63) with | some y64 => (match zeq N (u28.1, u28.2.1, u28.2.2.1, u28.2.2.2.1, u28.2.2.2.2.1, u28.2.2.2.2.2.1, u28.2.2.2.2.2.2.1, u28.2.2.2.2.2.2.2.1, u28.2.2.2.2.2.2.2.2.1, u28.2.2.2.2.2.2.2.2.2.1, (y64 == 0), u28.2.2.2.2.2.2.2.2.2.2.1, u28.2.2.2.2.2.2.2.2.2.2.2.1, u28.2.2.2.2.2.2.2.2.2.2.2.2.1, u28.2.2.2.2.2.2.2.2.2.2.2.2.2.1, (u28.2.2.2.2.2.2.2.2.2.2.2.2.2.2.map dat0)) with | some y65 => (ke (y65.1, y65.2.1, y65.2.2.1, y65.2.2.2.1, y65.2.2.2.2.1, y65.2.2.2.2.2.1, y65.2.2.2.2.2.2.1, y65.2.2.2.2.2.2.2.1, y65.2.2.2.2.2.2.2.2.1, y65.2.2.2.2.2.2.2.2.2.1, y65.2.2.2.2.2.2.2.2.2.2.1, y65.2.2.2.2.2.2.2.2.2.2.2.1, y65.2.2.2.2.2.2.2.2.2.2.2.2.1, (y65.2.2.2.2.2.2.2.2.2.2.2.2.2.map dat0))) | none => none) | none => none) | none => none) | none => none) else none))
noncomputable abbrev zgg (N : Nat) (x : (List (List AV)) × (List (List AV)) × (List (List AV)) × (List (List AV)) × Int × Int × Nat × Int × Int × Int × (List (List AV)) × Int × Int × RT3 × (List AV)) : Option (((List (List AV)) × (List (List AV)) × (List (List AV)) × (List (List AV)) × Int × Int × Nat × Int × Int × (List (List AV)) × Int × Int × RT3 × (List AV))) := (jk N).L N x
noncomputable def ji (N : Nat) : LSpec where
  X := (List (List AV)) × (List (List AV)) × (List (List AV)) × (List (List AV)) × Int × Int × Nat × Int × Int × Int × Bool × (List (List AV)) × Int × Int × RT3 × (List AV)
  Y := ((List (List AV)) × (List (List AV)) × (List (List AV)) × (List (List AV)) × Int × Int × Nat × Int × Int × (List (List AV)) × Int × Int × RT3 × (List AV))
  p := fun s => rdS 207 0 [(15, .tok 38 1280000960), (16, .tok 30 1280001024), (1, .lst 38), (3, .lst 25), (2, .int .i64), (4, .int .i64), (5, .ptr 5 0), (14, .vs0 34 1), (17, .int .i64), (18, .ptr 18 0), (19, .int .i64), (20, .int .i64), (63, .bool)] [(5, .cells [.lst 4, .int .i64, .int .i64]), (18, .row RK3), (34, .tt)] s fun ⟨a0, a1, a2, a3, a4, a5, _, a6, a7, _, a8, a9, a10, _⟩ ⟨⟨a11, a12, a13, _⟩, a14, a15, _⟩ => (a0, a1, a2, a3, a4, a5, a6, a7, a8, a9, a10, a11, a12, a13, a14, a15)
  st := fun u27 => mkS 207 [(15, (AV.list 38 u27.1 (some 1280000960))), (16, (AV.list 30 u27.2.1 (some 1280001024))), (1, (AV.list 38 u27.2.2.1 none)), (3, (AV.list 25 u27.2.2.2.1 none)), (2, (AV.v (.int .i64 u27.2.2.2.2.1))), (4, (AV.v (.int .i64 u27.2.2.2.2.2.1))), (5, (AV.ptr 5 0)), (14, (AV.vs 34 0 u27.2.2.2.2.2.2.1 1)), (17, (AV.v (.int .i64 u27.2.2.2.2.2.2.2.1))), (18, (AV.ptr 18 0)), (19, (AV.v (.int .i64 u27.2.2.2.2.2.2.2.2.1))), (20, (AV.v (.int .i64 u27.2.2.2.2.2.2.2.2.2.1))), (63, (AV.v (.bool u27.2.2.2.2.2.2.2.2.2.2.1)))] [(5, [(AV.list 4 u27.2.2.2.2.2.2.2.2.2.2.2.1 none), (AV.v (.int .i64 u27.2.2.2.2.2.2.2.2.2.2.2.2.1)), (AV.v (.int .i64 u27.2.2.2.2.2.2.2.2.2.2.2.2.2.1))]), (18, (Ren3 u27.2.2.2.2.2.2.2.2.2.2.2.2.2.2.1)), (34, u27.2.2.2.2.2.2.2.2.2.2.2.2.2.2.2)] (zP 27).1.toks 0
  out := fun y => (.normal, mkS 207 [(15, (AV.list 38 y.1 (some 1280000960))), (16, (AV.list 30 y.2.1 (some 1280001024))), (1, (AV.list 38 y.2.2.1 none)), (3, (AV.list 25 y.2.2.2.1 none)), (2, (AV.v (.int .i64 y.2.2.2.2.1))), (4, (AV.v (.int .i64 y.2.2.2.2.2.1))), (5, (AV.ptr 5 0)), (14, (AV.vs 34 0 y.2.2.2.2.2.2.1 1)), (17, (AV.v (.int .i64 y.2.2.2.2.2.2.2.1))), (18, (AV.ptr 18 0)), (19, (AV.v (.int .i64 y.2.2.2.2.2.2.2.2.1)))] [(5, [(AV.list 4 y.2.2.2.2.2.2.2.2.2.1 none), (AV.v (.int .i64 y.2.2.2.2.2.2.2.2.2.2.1)), (AV.v (.int .i64 y.2.2.2.2.2.2.2.2.2.2.2.1))]), (18, (Ren3 y.2.2.2.2.2.2.2.2.2.2.2.2.1)), (34, y.2.2.2.2.2.2.2.2.2.2.2.2.2)] (zP 27).2.toks 0)
  sp := fun y α k => k (.normal, mkS 207 [(15, (AV.list 38 y.1 (some 1280000960))), (16, (AV.list 30 y.2.1 (some 1280001024))), (1, (AV.list 38 y.2.2.1 none)), (3, (AV.list 25 y.2.2.2.1 none)), (2, (AV.v (.int .i64 y.2.2.2.2.1))), (4, (AV.v (.int .i64 y.2.2.2.2.2.1))), (5, (AV.ptr 5 0)), (14, (AV.vs 34 0 y.2.2.2.2.2.2.1 1)), (17, (AV.v (.int .i64 y.2.2.2.2.2.2.2.1))), (18, (AV.ptr 18 0)), (19, (AV.v (.int .i64 y.2.2.2.2.2.2.2.2.1)))] [(5, [(AV.list 4 y.2.2.2.2.2.2.2.2.2.1 none), (AV.v (.int .i64 y.2.2.2.2.2.2.2.2.2.2.1)), (AV.v (.int .i64 y.2.2.2.2.2.2.2.2.2.2.2.1))]), (18, (Ren3 y.2.2.2.2.2.2.2.2.2.2.2.2.1)), (34, y.2.2.2.2.2.2.2.2.2.2.2.2.2)] (zP 27).2.toks 0)
  spe := fun y α k => rfl
  b := fun u27 α kn ke => (match u27.2.2.2.2.2.2.2.2.2.2.1 with | true => (ke (u27.1, u27.2.1, u27.2.2.1, u27.2.2.2.1, u27.2.2.2.2.1, u27.2.2.2.2.2.1, u27.2.2.2.2.2.2.1, u27.2.2.2.2.2.2.2.1, u27.2.2.2.2.2.2.2.2.1, u27.2.2.2.2.2.2.2.2.2.2.2.1, u27.2.2.2.2.2.2.2.2.2.2.2.2.1, u27.2.2.2.2.2.2.2.2.2.2.2.2.2.1, u27.2.2.2.2.2.2.2.2.2.2.2.2.2.2.1, (u27.2.2.2.2.2.2.2.2.2.2.2.2.2.2.2.map dat0))) | false => (match zgg N (u27.1, u27.2.1, u27.2.2.1, u27.2.2.2.1, u27.2.2.2.2.1, u27.2.2.2.2.2.1, u27.2.2.2.2.2.2.1, u27.2.2.2.2.2.2.2.1, u27.2.2.2.2.2.2.2.2.1, u27.2.2.2.2.2.2.2.2.2.1, u27.2.2.2.2.2.2.2.2.2.2.2.1, u27.2.2.2.2.2.2.2.2.2.2.2.2.1, u27.2.2.2.2.2.2.2.2.2.2.2.2.2.1, u27.2.2.2.2.2.2.2.2.2.2.2.2.2.2.1, (u27.2.2.2.2.2.2.2.2.2.2.2.2.2.2.2.map dat0)) with | some y68 => (ke (y68.1, y68.2.1, y68.2.2.1, y68.2.2.2.1, y68.2.2.2.2.1, y68.2.2.2.2.2.1, y68.2.2.2.2.2.2.1, y68.2.2.2.2.2.2.2.1, y68.2.2.2.2.2.2.2.2.1, y68.2.2.2.2.2.2.2.2.2.1, y68.2.2.2.2.2.2.2.2.2.2.1, y68.2.2.2.2.2.2.2.2.2.2.2.1, y68.2.2.2.2.2.2.2.2.2.2.2.2.1, (y68.2.2.2.2.2.2.2.2.2.2.2.2.2.map dat0))) | none => none))
noncomputable abbrev zdU (N : Nat) (x : (List (List AV)) × (List (List AV)) × (List (List AV)) × (List (List AV)) × Int × Int × Nat × Int × Int × Int × Bool × (List (List AV)) × Int × Int × RT3 × (List AV)) : Option (((List (List AV)) × (List (List AV)) × (List (List AV)) × (List (List AV)) × Int × Int × Nat × Int × Int × (List (List AV)) × Int × Int × RT3 × (List AV))) := (ji N).L N x
noncomputable def jh (N : Nat) : LSpec where
  X := (List (List AV)) × (List (List AV)) × (List (List AV)) × (List (List AV)) × Int × Int × Nat × Int × Int × Bool × (List (List AV)) × Int × Int × RT3 × (List AV)
  Y := ((List (List AV)) × (List (List AV)) × (List (List AV)) × (List (List AV)) × Int × Int × Nat × Int × Int × (List (List AV)) × Int × Int × RT3 × (List AV))
  p := fun s => rdS 207 0 [(15, .tok 38 1280000960), (16, .tok 30 1280001024), (1, .lst 38), (3, .lst 25), (2, .int .i64), (4, .int .i64), (5, .ptr 5 0), (14, .vs0 34 1), (17, .int .i64), (18, .ptr 18 0), (19, .int .i64), (49, .bool)] [(5, .cells [.lst 4, .int .i64, .int .i64]), (18, .row RK3), (34, .tt)] s fun ⟨a0, a1, a2, a3, a4, a5, _, a6, a7, _, a8, a9, _⟩ ⟨⟨a10, a11, a12, _⟩, a13, a14, _⟩ => (a0, a1, a2, a3, a4, a5, a6, a7, a8, a9, a10, a11, a12, a13, a14)
  st := fun u22 => mkS 207 [(15, (AV.list 38 u22.1 (some 1280000960))), (16, (AV.list 30 u22.2.1 (some 1280001024))), (1, (AV.list 38 u22.2.2.1 none)), (3, (AV.list 25 u22.2.2.2.1 none)), (2, (AV.v (.int .i64 u22.2.2.2.2.1))), (4, (AV.v (.int .i64 u22.2.2.2.2.2.1))), (5, (AV.ptr 5 0)), (14, (AV.vs 34 0 u22.2.2.2.2.2.2.1 1)), (17, (AV.v (.int .i64 u22.2.2.2.2.2.2.2.1))), (18, (AV.ptr 18 0)), (19, (AV.v (.int .i64 u22.2.2.2.2.2.2.2.2.1))), (49, (AV.v (.bool u22.2.2.2.2.2.2.2.2.2.1)))] [(5, [(AV.list 4 u22.2.2.2.2.2.2.2.2.2.2.1 none), (AV.v (.int .i64 u22.2.2.2.2.2.2.2.2.2.2.2.1)), (AV.v (.int .i64 u22.2.2.2.2.2.2.2.2.2.2.2.2.1))]), (18, (Ren3 u22.2.2.2.2.2.2.2.2.2.2.2.2.2.1)), (34, u22.2.2.2.2.2.2.2.2.2.2.2.2.2.2)] (zP 22).1.toks 0
  out := fun y => (.normal, mkS 207 [(15, (AV.list 38 y.1 (some 1280000960))), (16, (AV.list 30 y.2.1 (some 1280001024))), (1, (AV.list 38 y.2.2.1 none)), (3, (AV.list 25 y.2.2.2.1 none)), (2, (AV.v (.int .i64 y.2.2.2.2.1))), (4, (AV.v (.int .i64 y.2.2.2.2.2.1))), (5, (AV.ptr 5 0)), (14, (AV.vs 34 0 y.2.2.2.2.2.2.1 1)), (17, (AV.v (.int .i64 y.2.2.2.2.2.2.2.1))), (18, (AV.ptr 18 0)), (19, (AV.v (.int .i64 y.2.2.2.2.2.2.2.2.1)))] [(5, [(AV.list 4 y.2.2.2.2.2.2.2.2.2.1 none), (AV.v (.int .i64 y.2.2.2.2.2.2.2.2.2.2.1)), (AV.v (.int .i64 y.2.2.2.2.2.2.2.2.2.2.2.1))]), (18, (Ren3 y.2.2.2.2.2.2.2.2.2.2.2.2.1)), (34, y.2.2.2.2.2.2.2.2.2.2.2.2.2)] (zP 22).2.toks 0)
  sp := fun y α k => k (.normal, mkS 207 [(15, (AV.list 38 y.1 (some 1280000960))), (16, (AV.list 30 y.2.1 (some 1280001024))), (1, (AV.list 38 y.2.2.1 none)), (3, (AV.list 25 y.2.2.2.1 none)), (2, (AV.v (.int .i64 y.2.2.2.2.1))), (4, (AV.v (.int .i64 y.2.2.2.2.2.1))), (5, (AV.ptr 5 0)), (14, (AV.vs 34 0 y.2.2.2.2.2.2.1 1)), (17, (AV.v (.int .i64 y.2.2.2.2.2.2.2.1))), (18, (AV.ptr 18 0)), (19, (AV.v (.int .i64 y.2.2.2.2.2.2.2.2.1)))] [(5, [(AV.list 4 y.2.2.2.2.2.2.2.2.2.1 none), (AV.v (.int .i64 y.2.2.2.2.2.2.2.2.2.2.1)), (AV.v (.int .i64 y.2.2.2.2.2.2.2.2.2.2.2.1))]), (18, (Ren3 y.2.2.2.2.2.2.2.2.2.2.2.2.1)), (34, y.2.2.2.2.2.2.2.2.2.2.2.2.2)] (zP 22).2.toks 0)
  spe := fun y α k => rfl
  b := fun u22 α kn ke => (match u22.2.2.2.2.2.2.2.2.2.1 with | true => (if 0 ≤ u22.2.2.2.2.2.2.2.1 ∧ u22.2.2.2.2.2.2.2.1 < (u22.2.2.2.2.2.2.1 : Int) then (match u22.2.2.2.2.2.2.2.2.2.2.2.2.2.2[((0 + u22.2.2.2.2.2.2.2.1.toNat) * 1)]? with | some x18 => (match x18 with | .v (.int q20 n19) => (if q20 = .i64 then (if 0 ≤ n19 then (match u22.2.2.2.1[n19.toNat]? with | some c21 => (match Rrd1 (c21.drop 0) with | some e22 => (ke (u22.1, u22.2.1, u22.2.2.1, u22.2.2.2.1, u22.2.2.2.2.1, u22.2.2.2.2.2.1, u22.2.2.2.2.2.2.1, u22.2.2.2.2.2.2.2.1, u22.2.2.2.2.2.2.2.2.1, u22.2.2.2.2.2.2.2.2.2.2.1, u22.2.2.2.2.2.2.2.2.2.2.2.1, u22.2.2.2.2.2.2.2.2.2.2.2.2.1, (u22.2.2.2.2.2.2.2.2.2.2.2.2.2.1.1, u22.2.2.2.2.2.2.2.2.2.2.2.2.2.1.2.1, e22.1, e22.2.1, e22.2.2.1, e22.2.2.2.1, e22.2.2.2.2.1, e22.2.2.2.2.2.1, e22.2.2.2.2.2.2.1, e22.2.2.2.2.2.2.2.1, e22.2.2.2.2.2.2.2.2.1, u22.2.2.2.2.2.2.2.2.2.2.2.2.2.1.2.2.2.2.2.2.2.2.2.2.2), (u22.2.2.2.2.2.2.2.2.2.2.2.2.2.2.map dat0))) | none => none) | none => none) else none) else none) | _ => none) | none => none) else none) | false => (ke (u22.1, u22.2.1, u22.2.2.1, u22.2.2.2.1, u22.2.2.2.2.1, u22.2.2.2.2.2.1, u22.2.2.2.2.2.2.1, u22.2.2.2.2.2.2.2.1, u22.2.2.2.2.2.2.2.2.1, u22.2.2.2.2.2.2.2.2.2.2.1, u22.2.2.2.2.2.2.2.2.2.2.2.1, u22.2.2.2.2.2.2.2.2.2.2.2.2.1, u22.2.2.2.2.2.2.2.2.2.2.2.2.2.1, (u22.2.2.2.2.2.2.2.2.2.2.2.2.2.2.map dat0))))
noncomputable abbrev zen (N : Nat) (x : (List (List AV)) × (List (List AV)) × (List (List AV)) × (List (List AV)) × Int × Int × Nat × Int × Int × Bool × (List (List AV)) × Int × Int × RT3 × (List AV)) : Option (((List (List AV)) × (List (List AV)) × (List (List AV)) × (List (List AV)) × Int × Int × Nat × Int × Int × (List (List AV)) × Int × Int × RT3 × (List AV))) := (jh N).L N x
noncomputable def Zf (N : Nat) : LSpec where
  X := (List (List AV)) × (List (List AV)) × (List (List AV)) × (List (List AV)) × Int × Int × Nat × Int × (List (List AV)) × Int × Int × (List AV)
  Y := ((List (List AV)) × (List (List AV)) × (List (List AV)) × Int × Int × Nat × (List (List AV)) × Int × Int × (List AV))
  p := fun s => rdS 207 0 [(15, .tok 38 1280000960), (16, .tok 30 1280001024), (1, .lst 38), (3, .lst 25), (2, .int .i64), (4, .int .i64), (5, .ptr 5 0), (14, .vs0 34 1), (17, .int .i64)] [(5, .cells [.lst 4, .int .i64, .int .i64]), (34, .tt)] s fun ⟨a0, a1, a2, a3, a4, a5, _, a6, a7, _⟩ ⟨⟨a8, a9, a10, _⟩, a11, _⟩ => (a0, a1, a2, a3, a4, a5, a6, a7, a8, a9, a10, a11)
  st := fun u12 => mkS 207 [(15, (AV.list 38 u12.1 (some 1280000960))), (16, (AV.list 30 u12.2.1 (some 1280001024))), (1, (AV.list 38 u12.2.2.1 none)), (3, (AV.list 25 u12.2.2.2.1 none)), (2, (AV.v (.int .i64 u12.2.2.2.2.1))), (4, (AV.v (.int .i64 u12.2.2.2.2.2.1))), (5, (AV.ptr 5 0)), (14, (AV.vs 34 0 u12.2.2.2.2.2.2.1 1)), (17, (AV.v (.int .i64 u12.2.2.2.2.2.2.2.1)))] [(5, [(AV.list 4 u12.2.2.2.2.2.2.2.2.1 none), (AV.v (.int .i64 u12.2.2.2.2.2.2.2.2.2.1)), (AV.v (.int .i64 u12.2.2.2.2.2.2.2.2.2.2.1))]), (34, u12.2.2.2.2.2.2.2.2.2.2.2)] (zP 12).1.toks 0
  out := fun y => (.exit 0, mkS 207 [(15, (AV.list 38 y.1 (some 1280000960))), (16, (AV.list 30 y.2.1 (some 1280001024))), (3, (AV.list 25 y.2.2.1 none)), (2, (AV.v (.int .i64 y.2.2.2.1))), (4, (AV.v (.int .i64 y.2.2.2.2.1))), (5, (AV.ptr 5 0)), (14, (AV.vs 34 0 y.2.2.2.2.2.1 1))] [(5, [(AV.list 4 y.2.2.2.2.2.2.1 none), (AV.v (.int .i64 y.2.2.2.2.2.2.2.1)), (AV.v (.int .i64 y.2.2.2.2.2.2.2.2.1))]), (34, y.2.2.2.2.2.2.2.2.2)] (zP 12).2.toks 0)
  sp := fun y α k => k (.exit 0, mkS 207 [(15, (AV.list 38 y.1 (some 1280000960))), (16, (AV.list 30 y.2.1 (some 1280001024))), (3, (AV.list 25 y.2.2.1 none)), (2, (AV.v (.int .i64 y.2.2.2.1))), (4, (AV.v (.int .i64 y.2.2.2.2.1))), (5, (AV.ptr 5 0)), (14, (AV.vs 34 0 y.2.2.2.2.2.1 1))] [(5, [(AV.list 4 y.2.2.2.2.2.2.1 none), (AV.v (.int .i64 y.2.2.2.2.2.2.2.1)), (AV.v (.int .i64 y.2.2.2.2.2.2.2.2.1))]), (34, y.2.2.2.2.2.2.2.2.2)] (zP 12).2.toks 0)
  spe := fun y α k => rfl
  b := fun u12 α kn ke => (match (decide (u12.2.2.2.2.2.2.2.1 < (u12.2.2.1.length : Int))) with | true => (if 0 ≤ u12.2.2.2.2.2.2.2.1 then (match u12.2.2.1[u12.2.2.2.2.2.2.2.1.toNat]? with | some c70 => (match Rrd3 c70 with | some e71 => (if 0 ≤ u12.2.2.2.2.2.2.2.1 ∧ u12.2.2.2.2.2.2.2.1 < (u12.2.2.2.2.2.2.1 : Int) then (match u12.2.2.2.2.2.2.2.2.2.2.2[((0 + u12.2.2.2.2.2.2.2.1.toNat) * 1)]? with | some x72 => (match x72 with | .v (.int q74 n73) => (if q74 = .i64 then (match zen N (u12.1, u12.2.1, u12.2.2.1, u12.2.2.2.1, u12.2.2.2.2.1, u12.2.2.2.2.2.1, u12.2.2.2.2.2.2.1, u12.2.2.2.2.2.2.2.1, 0, (decide (n73 ≥ 0)), u12.2.2.2.2.2.2.2.2.1, u12.2.2.2.2.2.2.2.2.2.1, u12.2.2.2.2.2.2.2.2.2.2.1, e71, (u12.2.2.2.2.2.2.2.2.2.2.2.map dat0)) with | some y75 => (if 0 ≤ y75.2.2.2.2.2.2.2.1 ∧ y75.2.2.2.2.2.2.2.1 < (y75.2.2.2.2.2.2.1 : Int) then (match y75.2.2.2.2.2.2.2.2.2.2.2.2.2[((0 + y75.2.2.2.2.2.2.2.1.toNat) * 1)]? with | some x76 => (match x76 with | .v (.int q78 n77) => (if q78 = .i64 then (match zdU N (y75.1, y75.2.1, y75.2.2.1, y75.2.2.2.1, y75.2.2.2.2.1, y75.2.2.2.2.2.1, y75.2.2.2.2.2.2.1, y75.2.2.2.2.2.2.2.1, y75.2.2.2.2.2.2.2.2.1, n77, y75.2.2.2.2.2.2.2.2.2.2.2.2.1.2.1, y75.2.2.2.2.2.2.2.2.2.1, y75.2.2.2.2.2.2.2.2.2.2.1, y75.2.2.2.2.2.2.2.2.2.2.2.1, y75.2.2.2.2.2.2.2.2.2.2.2.2.1, (y75.2.2.2.2.2.2.2.2.2.2.2.2.2.map dat0)) with | some y79 => (match (decide (y79.2.2.2.2.2.2.2.2.1 > 0)) with | true => (if (y79.2.1.length + [(Ren6 ((i64 (y79.2.2.2.2.1 + (y79.2.1.length : Int))), y79.2.2.2.2.2.2.2.2.1, y79.2.2.2.2.2.2.2.2.2.2.2.2.1.1, y79.2.2.2.2.2.1, y79.2.2.2.2.2.2.2.2.2.2.2.2.1.2.2.2.2.2.2.2.2.2.2.2.1, y79.2.2.2.2.2.2.2.2.2.2.2.2.1.2.2.2.2.2.2.2.2.2.2.2.2.1, y79.2.2.2.2.2.2.2.2.2.2.2.2.1.2.2.2.2.2.2.2.2.2.2.2.2.2.1, y79.2.2.2.2.2.2.2.2.2.2.2.2.1.2.2.2.2.2.2.2.2.2.2.2.2.2.2.1, y79.2.2.2.2.2.2.2.2.2.2.2.2.1.2.2.2.2.2.2.2.2.2.2.2.2.2.2.2.1, y79.2.2.2.2.2.2.2.2.2.2.2.2.1.2.2.2.2.2.2.2.2.2.2.2.2.2.2.2.2.1, y79.2.2.2.2.2.2.2.2.2.2.2.2.1.2.2.2.2.2.2.2.2.2.2.2.2.2.2.2.2.2.1, y79.2.2.2.2.2.2.2.2.2.2.2.2.1.2.2.2.2.2.2.2.2.2.2.2.2.2.2.2.2.2.2.1, y79.2.2.2.2.2.2.2.2.2.2.2.2.1.2.2.2.2.2.2.2.2.2.2.2.2.2.2.2.2.2.2.2.1, y79.2.2.2.2.2.2.2.2.2.2.2.2.1.2.2.2.2.2.2.2.2.2.2.2.2.2.2.2.2.2.2.2.2.1, y79.2.2.2.2.2.2.2.2.2.2.2.2.1.2.2.2.2.2.2.2.2.2.2.2.2.2.2.2.2.2.2.2.2.2.1, y79.2.2.2.2.2.2.2.2.2.2.2.2.1.2.2.2.2.2.2.2.2.2.2.2.2.2.2.2.2.2.2.2.2.2.2.1, y79.2.2.2.2.2.2.2.2.2.2.2.2.1.2.2.2.2.2.2.2.2.2.2.2.2.2.2.2.2.2.2.2.2.2.2.2.1, y79.2.2.2.2.2.2.2.2.2.2.2.2.1.2.2.2.2.2.2.2.2.2.2.2.2.2.2.2.2.2.2.2.2.2.2.2.2.1, y79.2.2.2.2.2.2.2.2.2.2.2.2.1.2.2.2.2.2.2.2.2.2.2.2.2.2.2.2.2.2.2.2.2.2.2.2.2.2.1, y79.2.2.2.2.2.2.2.2.2.2.2.2.1.2.2.2.2.2.2.2.2.2.2.2.2.2.2.2.2.2.2.2.2.2.2.2.2.2.2.1, y79.2.2.2.2.2.2.2.2.2.2.2.2.1.2.2.2.2.2.2.2.2.2.2.2.2.2.2.2.2.2.2.2.2.2.2.2.2.2.2.2.1, y79.2.2.2.2.2.2.2.2.2.2.2.2.1.2.2.2.2.2.2.2.2.2.2.2.2.2.2.2.2.2.2.2.2.2.2.2.2.2.2.2.2.1, y79.2.2.2.2.2.2.2.2.2.2.2.2.1.2.2.2.2.2.2.2.2.2.2.2.2.2.2.2.2.2.2.2.2.2.2.2.2.2.2.2.2.2.1, y79.2.2.2.2.2.2.2.2.2.2.2.2.1.2.2.2.2.2.2.2.2.2.2.2.2.2.2.2.2.2.2.2.2.2.2.2.2.2.2.2.2.2.2.1, y79.2.2.2.2.2.2.2.2.2.2.2.2.1.2.2.2.2.2.2.2.2.2.2.2.2.2.2.2.2.2.2.2.2.2.2.2.2.2.2.2.2.2.2.2.1, y79.2.2.2.2.2.2.2.2.2.2.2.2.1.2.2.2.2.2.2.2.2.2.2.2.2.2.2.2.2.2.2.2.2.2.2.2.2.2.2.2.2.2.2.2.2.1, y79.2.2.2.2.2.2.2.2.2.2.2.2.1.2.2.2.2.2.2.2.2.2.2.2.2.2.2.2.2.2.2.2.2.2.2.2.2.2.2.2.2.2.2.2.2.2.1, y79.2.2.2.2.2.2.2.2.2.2.2.2.1.2.2.2.2.2.2.2.2.2.2.2.2.2.2.2.2.2.2.2.2.2.2.2.2.2.2.2.2.2.2.2.2.2.2.1, y79.2.2.2.2.2.2.2.2.2.2.2.2.1.2.2.2.2.2.2.2.2.2.2.2.2.2.2.2.2.2.2.2.2.2.2.2.2.2.2.2.2.2.2.2.2.2.2.2.1, y79.2.2.2.2.2.2.2.2.2.2.2.2.1.2.2.2.2.2.2.2.2.2.2.2.2.2.2.2.2.2.2.2.2.2.2.2.2.2.2.2.2.2.2.2.2.2.2.2.2.1, ()))].length) * 288 ≤ zl then (if (y79.1.length + [(Ren3 (y79.2.2.2.2.2.2.2.2.2.2.2.2.1.1, y79.2.2.2.2.2.2.2.2.2.2.2.2.1.2.1, y79.2.2.2.2.2.2.2.2.2.2.2.2.1.2.2.1, y79.2.2.2.2.2.2.2.2.2.2.2.2.1.2.2.2.1, y79.2.2.2.2.2.2.2.2.2.2.2.2.1.2.2.2.2.1, y79.2.2.2.2.2.2.2.2.2.2.2.2.1.2.2.2.2.2.1, y79.2.2.2.2.2.2.2.2.2.2.2.2.1.2.2.2.2.2.2.1, y79.2.2.2.2.2.2.2.2.2.2.2.2.1.2.2.2.2.2.2.2.1, y79.2.2.2.2.2.2.2.2.2.2.2.2.1.2.2.2.2.2.2.2.2.1, y79.2.2.2.2.2.2.2.2.2.2.2.2.1.2.2.2.2.2.2.2.2.2.1, y79.2.2.2.2.2.2.2.2.2.2.2.2.1.2.2.2.2.2.2.2.2.2.2.1, y79.2.2.2.2.2.2.2.2.2.2.2.2.1.2.2.2.2.2.2.2.2.2.2.2.1, y79.2.2.2.2.2.2.2.2.2.2.2.2.1.2.2.2.2.2.2.2.2.2.2.2.2.1, y79.2.2.2.2.2.2.2.2.2.2.2.2.1.2.2.2.2.2.2.2.2.2.2.2.2.2.1, y79.2.2.2.2.2.2.2.2.2.2.2.2.1.2.2.2.2.2.2.2.2.2.2.2.2.2.2.1, y79.2.2.2.2.2.2.2.2.2.2.2.2.1.2.2.2.2.2.2.2.2.2.2.2.2.2.2.2.1, y79.2.2.2.2.2.2.2.2.2.2.2.2.1.2.2.2.2.2.2.2.2.2.2.2.2.2.2.2.2.1, y79.2.2.2.2.2.2.2.2.2.2.2.2.1.2.2.2.2.2.2.2.2.2.2.2.2.2.2.2.2.2.1, y79.2.2.2.2.2.2.2.2.2.2.2.2.1.2.2.2.2.2.2.2.2.2.2.2.2.2.2.2.2.2.2.1, y79.2.2.2.2.2.2.2.2.2.2.2.2.1.2.2.2.2.2.2.2.2.2.2.2.2.2.2.2.2.2.2.2.1, y79.2.2.2.2.2.2.2.2.2.2.2.2.1.2.2.2.2.2.2.2.2.2.2.2.2.2.2.2.2.2.2.2.2.1, y79.2.2.2.2.2.2.2.2.2.2.2.2.1.2.2.2.2.2.2.2.2.2.2.2.2.2.2.2.2.2.2.2.2.2.1, y79.2.2.2.2.2.2.2.2.2.2.2.2.1.2.2.2.2.2.2.2.2.2.2.2.2.2.2.2.2.2.2.2.2.2.2.1, y79.2.2.2.2.2.2.2.2.2.2.2.2.1.2.2.2.2.2.2.2.2.2.2.2.2.2.2.2.2.2.2.2.2.2.2.2.1, y79.2.2.2.2.2.2.2.2.2.2.2.2.1.2.2.2.2.2.2.2.2.2.2.2.2.2.2.2.2.2.2.2.2.2.2.2.2.1, y79.2.2.2.2.2.2.2.2.2.2.2.2.1.2.2.2.2.2.2.2.2.2.2.2.2.2.2.2.2.2.2.2.2.2.2.2.2.2.1, y79.2.2.2.2.2.2.2.2.2.2.2.2.1.2.2.2.2.2.2.2.2.2.2.2.2.2.2.2.2.2.2.2.2.2.2.2.2.2.2.1, y79.2.2.2.2.2.2.2.2.2.2.2.2.1.2.2.2.2.2.2.2.2.2.2.2.2.2.2.2.2.2.2.2.2.2.2.2.2.2.2.2.1, y79.2.2.2.2.2.2.2.2.2.2.2.2.1.2.2.2.2.2.2.2.2.2.2.2.2.2.2.2.2.2.2.2.2.2.2.2.2.2.2.2.2.1, y79.2.2.2.2.2.2.2.2.2.2.2.2.1.2.2.2.2.2.2.2.2.2.2.2.2.2.2.2.2.2.2.2.2.2.2.2.2.2.2.2.2.2.1, y79.2.2.2.2.2.2.2.2.2.2.2.2.1.2.2.2.2.2.2.2.2.2.2.2.2.2.2.2.2.2.2.2.2.2.2.2.2.2.2.2.2.2.2.1, y79.2.2.2.2.2.2.2.2.2.2.2.2.1.2.2.2.2.2.2.2.2.2.2.2.2.2.2.2.2.2.2.2.2.2.2.2.2.2.2.2.2.2.2.2.1, y79.2.2.2.2.2.2.2.2.2.2.2.2.1.2.2.2.2.2.2.2.2.2.2.2.2.2.2.2.2.2.2.2.2.2.2.2.2.2.2.2.2.2.2.2.2.1, y79.2.2.2.2.2.2.2.2.2.2.2.2.1.2.2.2.2.2.2.2.2.2.2.2.2.2.2.2.2.2.2.2.2.2.2.2.2.2.2.2.2.2.2.2.2.2.1, y79.2.2.2.2.2.2.2.2.2.2.2.2.1.2.2.2.2.2.2.2.2.2.2.2.2.2.2.2.2.2.2.2.2.2.2.2.2.2.2.2.2.2.2.2.2.2.2.1, y79.2.2.2.2.2.2.2.2.2.2.2.2.1.2.2.2.2.2.2.2.2.2.2.2.2.2.2.2.2.2.2.2.2.2.2.2.2.2.2.2.2.2.2.2.2.2.2.2.1, y79.2.2.2.2.2.2.2.2.2.2.2.2.1.2.2.2.2.2.2.2.2.2.2.2.2.2.2.2.2.2.2.2.2.2.2.2.2.2.2.2.2.2.2.2.2.2.2.2.2.1, y79.2.2.2.2.2.1, ()))].length) * 384 ≤ zl then (kn ((y79.1 ++ [(Ren3 (y79.2.2.2.2.2.2.2.2.2.2.2.2.1.1, y79.2.2.2.2.2.2.2.2.2.2.2.2.1.2.1, y79.2.2.2.2.2.2.2.2.2.2.2.2.1.2.2.1, y79.2.2.2.2.2.2.2.2.2.2.2.2.1.2.2.2.1, y79.2.2.2.2.2.2.2.2.2.2.2.2.1.2.2.2.2.1, y79.2.2.2.2.2.2.2.2.2.2.2.2.1.2.2.2.2.2.1, y79.2.2.2.2.2.2.2.2.2.2.2.2.1.2.2.2.2.2.2.1, y79.2.2.2.2.2.2.2.2.2.2.2.2.1.2.2.2.2.2.2.2.1, y79.2.2.2.2.2.2.2.2.2.2.2.2.1.2.2.2.2.2.2.2.2.1, y79.2.2.2.2.2.2.2.2.2.2.2.2.1.2.2.2.2.2.2.2.2.2.1, y79.2.2.2.2.2.2.2.2.2.2.2.2.1.2.2.2.2.2.2.2.2.2.2.1, y79.2.2.2.2.2.2.2.2.2.2.2.2.1.2.2.2.2.2.2.2.2.2.2.2.1, y79.2.2.2.2.2.2.2.2.2.2.2.2.1.2.2.2.2.2.2.2.2.2.2.2.2.1, y79.2.2.2.2.2.2.2.2.2.2.2.2.1.2.2.2.2.2.2.2.2.2.2.2.2.2.1, y79.2.2.2.2.2.2.2.2.2.2.2.2.1.2.2.2.2.2.2.2.2.2.2.2.2.2.2.1, y79.2.2.2.2.2.2.2.2.2.2.2.2.1.2.2.2.2.2.2.2.2.2.2.2.2.2.2.2.1, y79.2.2.2.2.2.2.2.2.2.2.2.2.1.2.2.2.2.2.2.2.2.2.2.2.2.2.2.2.2.1, y79.2.2.2.2.2.2.2.2.2.2.2.2.1.2.2.2.2.2.2.2.2.2.2.2.2.2.2.2.2.2.1, y79.2.2.2.2.2.2.2.2.2.2.2.2.1.2.2.2.2.2.2.2.2.2.2.2.2.2.2.2.2.2.2.1, y79.2.2.2.2.2.2.2.2.2.2.2.2.1.2.2.2.2.2.2.2.2.2.2.2.2.2.2.2.2.2.2.2.1, y79.2.2.2.2.2.2.2.2.2.2.2.2.1.2.2.2.2.2.2.2.2.2.2.2.2.2.2.2.2.2.2.2.2.1, y79.2.2.2.2.2.2.2.2.2.2.2.2.1.2.2.2.2.2.2.2.2.2.2.2.2.2.2.2.2.2.2.2.2.2.1, y79.2.2.2.2.2.2.2.2.2.2.2.2.1.2.2.2.2.2.2.2.2.2.2.2.2.2.2.2.2.2.2.2.2.2.2.1, y79.2.2.2.2.2.2.2.2.2.2.2.2.1.2.2.2.2.2.2.2.2.2.2.2.2.2.2.2.2.2.2.2.2.2.2.2.1, y79.2.2.2.2.2.2.2.2.2.2.2.2.1.2.2.2.2.2.2.2.2.2.2.2.2.2.2.2.2.2.2.2.2.2.2.2.2.1, y79.2.2.2.2.2.2.2.2.2.2.2.2.1.2.2.2.2.2.2.2.2.2.2.2.2.2.2.2.2.2.2.2.2.2.2.2.2.2.1, y79.2.2.2.2.2.2.2.2.2.2.2.2.1.2.2.2.2.2.2.2.2.2.2.2.2.2.2.2.2.2.2.2.2.2.2.2.2.2.2.1, y79.2.2.2.2.2.2.2.2.2.2.2.2.1.2.2.2.2.2.2.2.2.2.2.2.2.2.2.2.2.2.2.2.2.2.2.2.2.2.2.2.1, y79.2.2.2.2.2.2.2.2.2.2.2.2.1.2.2.2.2.2.2.2.2.2.2.2.2.2.2.2.2.2.2.2.2.2.2.2.2.2.2.2.2.1, y79.2.2.2.2.2.2.2.2.2.2.2.2.1.2.2.2.2.2.2.2.2.2.2.2.2.2.2.2.2.2.2.2.2.2.2.2.2.2.2.2.2.2.1, y79.2.2.2.2.2.2.2.2.2.2.2.2.1.2.2.2.2.2.2.2.2.2.2.2.2.2.2.2.2.2.2.2.2.2.2.2.2.2.2.2.2.2.2.1, y79.2.2.2.2.2.2.2.2.2.2.2.2.1.2.2.2.2.2.2.2.2.2.2.2.2.2.2.2.2.2.2.2.2.2.2.2.2.2.2.2.2.2.2.2.1, y79.2.2.2.2.2.2.2.2.2.2.2.2.1.2.2.2.2.2.2.2.2.2.2.2.2.2.2.2.2.2.2.2.2.2.2.2.2.2.2.2.2.2.2.2.2.1, y79.2.2.2.2.2.2.2.2.2.2.2.2.1.2.2.2.2.2.2.2.2.2.2.2.2.2.2.2.2.2.2.2.2.2.2.2.2.2.2.2.2.2.2.2.2.2.1, y79.2.2.2.2.2.2.2.2.2.2.2.2.1.2.2.2.2.2.2.2.2.2.2.2.2.2.2.2.2.2.2.2.2.2.2.2.2.2.2.2.2.2.2.2.2.2.2.1, y79.2.2.2.2.2.2.2.2.2.2.2.2.1.2.2.2.2.2.2.2.2.2.2.2.2.2.2.2.2.2.2.2.2.2.2.2.2.2.2.2.2.2.2.2.2.2.2.2.1, y79.2.2.2.2.2.2.2.2.2.2.2.2.1.2.2.2.2.2.2.2.2.2.2.2.2.2.2.2.2.2.2.2.2.2.2.2.2.2.2.2.2.2.2.2.2.2.2.2.2.1, y79.2.2.2.2.2.1, ()))]), (y79.2.1 ++ [(Ren6 ((i64 (y79.2.2.2.2.1 + (y79.2.1.length : Int))), y79.2.2.2.2.2.2.2.2.1, y79.2.2.2.2.2.2.2.2.2.2.2.2.1.1, y79.2.2.2.2.2.1, y79.2.2.2.2.2.2.2.2.2.2.2.2.1.2.2.2.2.2.2.2.2.2.2.2.1, y79.2.2.2.2.2.2.2.2.2.2.2.2.1.2.2.2.2.2.2.2.2.2.2.2.2.1, y79.2.2.2.2.2.2.2.2.2.2.2.2.1.2.2.2.2.2.2.2.2.2.2.2.2.2.1, y79.2.2.2.2.2.2.2.2.2.2.2.2.1.2.2.2.2.2.2.2.2.2.2.2.2.2.2.1, y79.2.2.2.2.2.2.2.2.2.2.2.2.1.2.2.2.2.2.2.2.2.2.2.2.2.2.2.2.1, y79.2.2.2.2.2.2.2.2.2.2.2.2.1.2.2.2.2.2.2.2.2.2.2.2.2.2.2.2.2.1, y79.2.2.2.2.2.2.2.2.2.2.2.2.1.2.2.2.2.2.2.2.2.2.2.2.2.2.2.2.2.2.1, y79.2.2.2.2.2.2.2.2.2.2.2.2.1.2.2.2.2.2.2.2.2.2.2.2.2.2.2.2.2.2.2.1, y79.2.2.2.2.2.2.2.2.2.2.2.2.1.2.2.2.2.2.2.2.2.2.2.2.2.2.2.2.2.2.2.2.1, y79.2.2.2.2.2.2.2.2.2.2.2.2.1.2.2.2.2.2.2.2.2.2.2.2.2.2.2.2.2.2.2.2.2.1, y79.2.2.2.2.2.2.2.2.2.2.2.2.1.2.2.2.2.2.2.2.2.2.2.2.2.2.2.2.2.2.2.2.2.2.1, y79.2.2.2.2.2.2.2.2.2.2.2.2.1.2.2.2.2.2.2.2.2.2.2.2.2.2.2.2.2.2.2.2.2.2.2.1, y79.2.2.2.2.2.2.2.2.2.2.2.2.1.2.2.2.2.2.2.2.2.2.2.2.2.2.2.2.2.2.2.2.2.2.2.2.1, y79.2.2.2.2.2.2.2.2.2.2.2.2.1.2.2.2.2.2.2.2.2.2.2.2.2.2.2.2.2.2.2.2.2.2.2.2.2.1, y79.2.2.2.2.2.2.2.2.2.2.2.2.1.2.2.2.2.2.2.2.2.2.2.2.2.2.2.2.2.2.2.2.2.2.2.2.2.2.1, y79.2.2.2.2.2.2.2.2.2.2.2.2.1.2.2.2.2.2.2.2.2.2.2.2.2.2.2.2.2.2.2.2.2.2.2.2.2.2.2.1, y79.2.2.2.2.2.2.2.2.2.2.2.2.1.2.2.2.2.2.2.2.2.2.2.2.2.2.2.2.2.2.2.2.2.2.2.2.2.2.2.2.1, y79.2.2.2.2.2.2.2.2.2.2.2.2.1.2.2.2.2.2.2.2.2.2.2.2.2.2.2.2.2.2.2.2.2.2.2.2.2.2.2.2.2.1, y79.2.2.2.2.2.2.2.2.2.2.2.2.1.2.2.2.2.2.2.2.2.2.2.2.2.2.2.2.2.2.2.2.2.2.2.2.2.2.2.2.2.2.1, y79.2.2.2.2.2.2.2.2.2.2.2.2.1.2.2.2.2.2.2.2.2.2.2.2.2.2.2.2.2.2.2.2.2.2.2.2.2.2.2.2.2.2.2.1, y79.2.2.2.2.2.2.2.2.2.2.2.2.1.2.2.2.2.2.2.2.2.2.2.2.2.2.2.2.2.2.2.2.2.2.2.2.2.2.2.2.2.2.2.2.1, y79.2.2.2.2.2.2.2.2.2.2.2.2.1.2.2.2.2.2.2.2.2.2.2.2.2.2.2.2.2.2.2.2.2.2.2.2.2.2.2.2.2.2.2.2.2.1, y79.2.2.2.2.2.2.2.2.2.2.2.2.1.2.2.2.2.2.2.2.2.2.2.2.2.2.2.2.2.2.2.2.2.2.2.2.2.2.2.2.2.2.2.2.2.2.1, y79.2.2.2.2.2.2.2.2.2.2.2.2.1.2.2.2.2.2.2.2.2.2.2.2.2.2.2.2.2.2.2.2.2.2.2.2.2.2.2.2.2.2.2.2.2.2.2.1, y79.2.2.2.2.2.2.2.2.2.2.2.2.1.2.2.2.2.2.2.2.2.2.2.2.2.2.2.2.2.2.2.2.2.2.2.2.2.2.2.2.2.2.2.2.2.2.2.2.1, y79.2.2.2.2.2.2.2.2.2.2.2.2.1.2.2.2.2.2.2.2.2.2.2.2.2.2.2.2.2.2.2.2.2.2.2.2.2.2.2.2.2.2.2.2.2.2.2.2.2.1, ()))]), y79.2.2.1, y79.2.2.2.1, y79.2.2.2.2.1, y79.2.2.2.2.2.1, y79.2.2.2.2.2.2.1, (i64 (y79.2.2.2.2.2.2.2.1 + 1)), y79.2.2.2.2.2.2.2.2.2.1, y79.2.2.2.2.2.2.2.2.2.2.1, y79.2.2.2.2.2.2.2.2.2.2.2.1, (y79.2.2.2.2.2.2.2.2.2.2.2.2.2.map dat0))) else none) else none) | false => (if (y79.1.length + [(Ren3 y79.2.2.2.2.2.2.2.2.2.2.2.2.1)].length) * 384 ≤ zl then (kn ((y79.1 ++ [(Ren3 y79.2.2.2.2.2.2.2.2.2.2.2.2.1)]), y79.2.1, y79.2.2.1, y79.2.2.2.1, y79.2.2.2.2.1, y79.2.2.2.2.2.1, y79.2.2.2.2.2.2.1, (i64 (y79.2.2.2.2.2.2.2.1 + 1)), y79.2.2.2.2.2.2.2.2.2.1, y79.2.2.2.2.2.2.2.2.2.2.1, y79.2.2.2.2.2.2.2.2.2.2.2.1, (y79.2.2.2.2.2.2.2.2.2.2.2.2.2.map dat0))) else none)) | none => none) else none) | _ => none) | none => none) else none) | none => none) else none) | _ => none) | none => none) else none) | none => none) | none => none) else none) | false => (ke (u12.1, u12.2.1, u12.2.2.2.1, u12.2.2.2.2.1, u12.2.2.2.2.2.1, u12.2.2.2.2.2.2.1, u12.2.2.2.2.2.2.2.2.1, u12.2.2.2.2.2.2.2.2.2.1, u12.2.2.2.2.2.2.2.2.2.2.1, (u12.2.2.2.2.2.2.2.2.2.2.2.map dat0))))
noncomputable abbrev zlM (N : Nat) (x : (List (List AV)) × (List (List AV)) × (List (List AV)) × (List (List AV)) × Int × Int × Nat × Int × (List (List AV)) × Int × Int × (List AV)) : Option (((List (List AV)) × (List (List AV)) × (List (List AV)) × Int × Int × Nat × (List (List AV)) × Int × Int × (List AV))) := (Zf N).L N x
noncomputable def zcR (N : Nat) : FSpec where
  X := (List (List AV)) × Int × Int × (List (List AV)) × Int × (List (List AV)) × Int
  Y := (List (List AV)) × (List (List AV)) × Int
  ash := [[some 4, none, none], [some 38], [none], [some 25], [none]]
  bsh := []
  S := ⟨[[some 2000038], [some 2000030], [none]], [], [], [], []⟩
  bm := false
  pat := fun a b => zj a fun v1 c2 => Z4 v1 fun c3 => zj c3 fun c4 c5 => pLst 4 c4 fun a0 => zj c5 fun c6 c7 => pInt .i64 c6 fun a1 => zj c7 fun c8 c9 => pInt .i64 c8 fun a2 => pEnd c9 <| zj c2 fun v10 c11 => pLst 38 v10 fun a3 => zj c11 fun v12 c13 => pInt .i64 v12 fun a4 => zj c13 fun v14 c15 => pLst 25 v14 fun a5 => zj c15 fun v16 c17 => pInt .i64 v16 fun a6 => pEnd c17 <| pEnd b <| some (a0, a1, a2, a3, a4, a5, a6)
  args := fun x => [(AV.agg [(AV.list 4 x.1 none), (AV.v (.int .i64 x.2.1)), (AV.v (.int .i64 x.2.2.1))]), (AV.list 38 x.2.2.2.1 none), (AV.v (.int .i64 x.2.2.2.2.1)), (AV.list 25 x.2.2.2.2.2.1 none), (AV.v (.int .i64 x.2.2.2.2.2.2))]
  bs := fun x => []
  ret := fun y => ⟨(AV.tup [(AV.list 38 y.1 (some 2560000000)), (AV.list 30 y.2.1 (some 2560000001)), (AV.v (.int .i64 y.2.2))]), [], none, [], [2560000000, 2560000001], []⟩
  t := fun x α k => (match F55_d N x with | some y1 => (match (y1 != 0) with | true => (k (([] : List (List AV)), ([] : List (List AV)), y1)) | false => (match zkg N (x.2.2.2.1, x.2.2.2.2.2.1) with | some y2 => (match zlM N (([] : List (List AV)), ([] : List (List AV)), x.2.2.2.1, x.2.2.2.2.2.1, x.2.2.2.2.1, x.2.2.2.2.2.2, y2.1, 0, x.1, x.2.1, x.2.2.1, ((y2.2.map dat0).map dat0)) with | some y80 => (match zm0 N (y80.1, y80.2.1, y80.2.2.1, y80.2.2.2.1, y80.2.2.2.2.1, y80.2.2.2.2.2.1, 0, y80.2.2.2.2.2.2.1, y80.2.2.2.2.2.2.2.1, y80.2.2.2.2.2.2.2.2.1, (y80.2.2.2.2.2.2.2.2.2.map dat0)) with | some y92 => (match (decide ((y92.1.length : Int) > 200)) with | true => (k (([] : List (List AV)), ([] : List (List AV)), 8)) | false => (match (decide ((i64 (y92.2.2 + (y92.2.1.length : Int))) > 1000)) with | true => (match (decide ((y92.2.1.length : Int) > 0)) with | true => (k (([] : List (List AV)), ([] : List (List AV)), 8)) | false => (k (y92.1, y92.2.1, 0))) | false => (k (y92.1, y92.2.1, 0)))) | none => none) | none => none) | none => none)) | none => none)
noncomputable abbrev F37_d (N : Nat) (x : (List (List AV)) × Int × Int × (List (List AV)) × Int × (List (List AV)) × Int) : Option ((List (List AV)) × (List (List AV)) × Int) := (zcR N).d x
noncomputable def ZS (N : Nat) : List (Nat × LSpec) := [(12, Zf N), (22, jh N), (27, ji N), (28, jk N), (29, jg N), (39, Za N)]
noncomputable def ZO : Code := Try.f37.body.getD .skip
theorem zks (N : Nat) : Par (Za N).b := by
  intro x α β kn ke kn' ke' r r' h h1 h2
  revert h
  dsimp only [Za]
  (repeat' (first | (with_reducible refine zg ?_ ?_) | (with_reducible refine zc ?_ ?_) | split)) <;> intro h <;> first | exact h1 _ h | exact h2 _ h | (cases h; done)
theorem ziC (N : Nat) : BdOk (tabB Try.prog [34]) (zfP N) zP N (ZS N) 39 ZO (Za N) := fun x α kn ke => by kernel_rfl
theorem zhZ (N : Nat) : LpOk Try.prog zP N (ZS N) 39 (zd 39 ZO) :=
  zE (zL Try.prog [34]) (zk _) zm zP N (ZS N) 39 ZO (l := []) (by kernel_rfl) (by kernel_rfl) an (Za N) rfl (fun s x hc h => by dsimp only [Za] at h; exact zH hc h (fun _ _ => rfl) rfl rfl) (fun _ => rfl) (ziC N) (zks N)
theorem zkS (N : Nat) : Par (jg N).b := by
  intro x α β kn ke kn' ke' r r' h h1 h2
  revert h
  dsimp only [jg]
  (repeat' (first | (with_reducible refine zg ?_ ?_) | (with_reducible refine zc ?_ ?_) | split)) <;> intro h <;> first | exact h1 _ h | exact h2 _ h | (cases h; done)
theorem ziw (N : Nat) : PcOk (tabB Try.prog [34]) (zfP N) zP N (ZS N) 29 ZO (jg N) := fun x α kn ke => by kernel_rfl
theorem JB (N : Nat) : LpOk Try.prog zP N (ZS N) 29 (zd 29 ZO) :=
  Ju (zL Try.prog [34]) (zk _) zm zP N (ZS N) 29 ZO (l := []) (by kernel_rfl) an (jg N) rfl (fun s x hc h => by dsimp only [jg] at h; exact zH hc h (fun _ _ => rfl) rfl rfl) (ziw N) (zkS N)
theorem zlB (N : Nat) : Par (jk N).b := by
  intro x α β kn ke kn' ke' r r' h h1 h2
  revert h
  dsimp only [jk]
  (repeat' (first | (with_reducible refine zg ?_ ?_) | (with_reducible refine zc ?_ ?_) | split)) <;> intro h <;> first | exact h1 _ h | exact h2 _ h | (cases h; done)
theorem zjf (N : Nat) : PcOk (tabB Try.prog [34]) (zfP N) zP N (ZS N) 28 ZO (jk N) := fun x α kn ke => by kernel_rfl
theorem zaz (N : Nat) : LpOk Try.prog zP N (ZS N) 28 (zd 28 ZO) :=
  Ju (zL Try.prog [34]) (zk _) zm zP N (ZS N) 28 ZO (l := [(29, zd 29 ZO)]) (by kernel_rfl) (al (JB N) an) (jk N) rfl (fun s x hc h => by dsimp only [jk] at h; exact zH hc h (fun _ _ => rfl) rfl rfl) (zjf N) (zlB N)
theorem zj3 (N : Nat) : Par (ji N).b := by
  intro x α β kn ke kn' ke' r r' h h1 h2
  revert h
  dsimp only [ji]
  (repeat' (first | (with_reducible refine zg ?_ ?_) | (with_reducible refine zc ?_ ?_) | split)) <;> intro h <;> first | exact h1 _ h | exact h2 _ h | (cases h; done)
theorem zh3 (N : Nat) : PcOk (tabB Try.prog [34]) (zfP N) zP N (ZS N) 27 ZO (ji N) := fun x α kn ke => by kernel_rfl
theorem zc7 (N : Nat) : LpOk Try.prog zP N (ZS N) 27 (zd 27 ZO) :=
  Ju (zL Try.prog [34]) (zk _) zm zP N (ZS N) 27 ZO (l := [(28, zd 28 ZO), (29, zd 29 ZO)]) (by kernel_rfl) (al (zaz N) (al (JB N) an)) (ji N) rfl (fun s x hc h => by dsimp only [ji] at h; exact zH hc h (fun _ _ => rfl) rfl rfl) (zh3 N) (zj3 N)
theorem zjJ (N : Nat) : Par (jh N).b := by
  intro x α β kn ke kn' ke' r r' h h1 h2
  revert h
  dsimp only [jh]
  (repeat' (first | (with_reducible refine zg ?_ ?_) | (with_reducible refine zc ?_ ?_) | split)) <;> intro h <;> first | exact h1 _ h | exact h2 _ h | (cases h; done)
theorem zim (N : Nat) : PcOk (tabB Try.prog [34]) (zfP N) zP N (ZS N) 22 ZO (jh N) := fun x α kn ke => by kernel_rfl
theorem zdB (N : Nat) : LpOk Try.prog zP N (ZS N) 22 (zd 22 ZO) :=
  Ju (zL Try.prog [34]) (zk _) zm zP N (ZS N) 22 ZO (l := []) (by kernel_rfl) an (jh N) rfl (fun s x hc h => by dsimp only [jh] at h; exact zH hc h (fun _ _ => rfl) rfl rfl) (zim N) (zjJ N)
theorem zkG (N : Nat) : Par (Zf N).b := by
  intro x α β kn ke kn' ke' r r' h h1 h2
  revert h
  dsimp only [Zf]
  (repeat' (first | (with_reducible refine zg ?_ ?_) | (with_reducible refine zc ?_ ?_) | split)) <;> intro h <;> first | exact h1 _ h | exact h2 _ h | (cases h; done)
theorem zil (N : Nat) : BdOk (tabB Try.prog [34]) (zfP N) zP N (ZS N) 12 ZO (Zf N) := fun x α kn ke => by kernel_rfl
theorem ziR (N : Nat) : LpOk Try.prog zP N (ZS N) 12 (zd 12 ZO) :=
  zE (zL Try.prog [34]) (zk _) zm zP N (ZS N) 12 ZO (l := [(22, zd 22 ZO), (27, zd 27 ZO), (28, zd 28 ZO), (29, zd 29 ZO)]) (by kernel_rfl) (by kernel_rfl) (al (zdB N) (al (zc7 N) (al (zaz N) (al (JB N) an)))) (Zf N) rfl (fun s x hc h => by dsimp only [Zf] at h; exact zH hc h (fun _ _ => rfl) rfl rfl) (fun _ => rfl) (zil N) (zkG N)
theorem F37_parF (N : Nat) : ParF (zcR N).t := by
  intro x α β k k' r r' h h1
  revert h
  dsimp only [zcR]
  (repeat' (first | (with_reducible refine zg ?_ ?_) | (with_reducible refine zc ?_ ?_) | split)) <;> intro h <;> first | exact h1 _ h | (cases h; done)
theorem F37_text (N : Nat) : TxOk (tabB Try.prog [34]) (zfP N) zP (lam N (ZS N)) Try.f37 (zcR N) := fun x => by kernel_rfl
theorem F37_pat (N : Nat) (a : List AV) (b : List (List AV)) (x : (zcR N).X) (h : (zcR N).pat a b = some x) : a = (zcR N).args x ∧ b = (zcR N).bs x := by
  obtain ⟨v1, c2, rfl, g0⟩ := zb (show zj _ _ = some x from h)
  obtain ⟨c3, rfl, g1⟩ := zJ g0; clear g0
  obtain ⟨c4, c5, rfl, g2⟩ := zb g1; clear g1
  obtain ⟨a0, rfl, g3⟩ := zy g2; clear g2
  obtain ⟨c6, c7, rfl, g4⟩ := zb g3; clear g3
  obtain ⟨a1, rfl, g5⟩ := zi g4; clear g4
  obtain ⟨c8, c9, rfl, g6⟩ := zb g5; clear g5
  obtain ⟨a2, rfl, g7⟩ := zi g6; clear g6
  obtain ⟨rfl, g8⟩ := ze g7; clear g7
  obtain ⟨v10, c11, rfl, g9⟩ := zb g8; clear g8
  obtain ⟨a3, rfl, g10⟩ := zy g9; clear g9
  obtain ⟨v12, c13, rfl, g11⟩ := zb g10; clear g10
  obtain ⟨a4, rfl, g12⟩ := zi g11; clear g11
  obtain ⟨v14, c15, rfl, g13⟩ := zb g12; clear g12
  obtain ⟨a5, rfl, g14⟩ := zy g13; clear g13
  obtain ⟨v16, c17, rfl, g15⟩ := zb g14; clear g14
  obtain ⟨a6, rfl, g16⟩ := zi g15; clear g15
  obtain ⟨rfl, g17⟩ := ze g16; clear g16
  obtain ⟨rfl, g18⟩ := ze g17; clear g17
  clear h
  cases g18
  exact ⟨rfl, rfl⟩
noncomputable def F37_e (N : Nat) : Ent Try.prog := zB (zL Try.prog [34]) (zk _) zm 37 Try.f37 Try.func37 rfl zP (lam N (ZS N)) (zp (l := [(12, zd 12 ZO), (22, zd 22 ZO), (27, zd 27 ZO), (28, zd 28 ZO), (29, zd 29 ZO), (39, zd 39 ZO)]) (al (ziR N) (al (zdB N) (al (zc7 N) (al (zaz N) (al (JB N) (al (zhZ N) an)))))) (by kernel_rfl)) (zcR N) (fun _ => ⟨rfl, rfl⟩) (F37_text N) (F37_pat N) (F37_parF N)
end Go.Proofs.Ytnnfpoelkdgjdaa
end
section
namespace Go.Proofs.Ytnnfpoelkdgjdaa
open Go.RowKit
set_option linter.unusedVariables false
set_option linter.unusedSimpArgs false
set_option linter.unnecessarySimpa false
set_option maxRecDepth 4000
def F7_an : Nat → Keep × Keep := anL []
noncomputable def F7_g (N : Nat) : GamK := gam (P := Try.prog) []
noncomputable def F7_s (N : Nat) : FSpec where
  X := (List (List AV))
  Y := (List (List AV)) × Int
  ash := [[some 1]]
  bsh := []
  S := ⟨[[none]], [], [some 1, none], [], []⟩
  bm := false
  pat := fun a b => rdA [.lst 1] [] a b fun ⟨a0, _⟩ _ => a0
  args := fun x => [(AV.list 1 x none)]
  bs := fun x => []
  ret := fun y => ⟨(AV.ptr 0 0), [], some [(AV.list 1 y.1 none), (AV.v (.int .i64 y.2))], [], [], []⟩
  t := fun x α k => (if 0 ≤ (if 2000 < (x.length : Int) then 2000 else (x.length : Int)) ∧ (if 2000 < (x.length : Int) then 2000 else (x.length : Int)) ≤ x.length then (k ((x.take (if 2000 < (x.length : Int) then 2000 else (x.length : Int)).toNat), 0)) else none)
noncomputable abbrev F7_d (N : Nat) (x : (List (List AV))) : Option ((List (List AV)) × Int) := (F7_s N).d x
theorem F7_parF (N : Nat) : ParF (F7_s N).t := by
  intro x α β k k' r r' h h1
  revert h
  dsimp only [F7_s]
  (repeat' (first | (with_reducible refine zg ?_ ?_) | (with_reducible refine zc ?_ ?_) | split)) <;> intro h <;> first | exact h1 _ h | (cases h; done)
theorem F7_text (N : Nat) : TxOk (zt Try.prog) (F7_g N) F7_an (lam N []) Try.f7 (F7_s N) := fun x => by kernel_rfl
noncomputable def F7_e (N : Nat) : Ent Try.prog := zB (zf Try.prog) (zk _) zm 7 Try.f7 Try.func7 rfl F7_an (lam N []) (zp (l := []) an (by kernel_rfl)) (F7_s N) (fun _ => ⟨rfl, rfl⟩) (F7_text N) (fun _ _ _ h => zA h (fun _ _ => rfl) (fun _ _ => rfl)) (F7_parF N)
def F25_an : Nat → Keep × Keep := anL []
noncomputable def F25_g (N : Nat) : GamK := gam (P := Try.prog) []
noncomputable def ziL (N : Nat) : FSpec where
  X := (List (List AV)) × Int
  Y := Int × (List (List AV)) × Int
  ash := [[none]]
  bsh := [[some 1, none]]
  S := ⟨[[none]], [[some 1, none]], [], [], []⟩
  bm := false
  pat := fun a b => rdA [.ptr 0 0] [.cells [.lst 1, .int .i64]] a b fun ⟨_, _⟩ ⟨⟨a0, a1, _⟩, _⟩ => (a0, a1)
  args := fun x => [(AV.ptr 0 0)]
  bs := fun x => [[(AV.list 1 x.1 none), (AV.v (.int .i64 x.2))]]
  ret := fun y => ⟨(AV.v (.int .i64 y.1)), [[(AV.list 1 y.2.1 none), (AV.v (.int .i64 y.2.2))]], none, [], [], []⟩
  t := fun x α k => (match (decide (x.2 ≥ (x.1.length : Int))) with | true => (k (0, x)) | false => (if 0 ≤ (i64 ((i64 (x.2 + 1)) - 1)) then (match x.1[(i64 ((i64 (x.2 + 1)) - 1)).toNat]? with | some c1 => (match c1[0]? with | some x2 => (match x2 with | .v (.int q4 n3) => (if q4 = .i64 then (k (n3, x.1, (i64 (x.2 + 1)))) else none) | _ => none) | none => none) | none => none) else none))
noncomputable abbrev F25_d (N : Nat) (x : (List (List AV)) × Int) : Option (Int × (List (List AV)) × Int) := (ziL N).d x
theorem F25_parF (N : Nat) : ParF (ziL N).t := by
  intro x α β k k' r r' h h1
  revert h
  dsimp only [ziL]
  (repeat' (first | (with_reducible refine zg ?_ ?_) | (with_reducible refine zc ?_ ?_) | split)) <;> intro h <;> first | exact h1 _ h | (cases h; done)
theorem F25_text (N : Nat) : TxOk (zt Try.prog) (F25_g N) F25_an (lam N []) Try.f25 (ziL N) := fun x => by kernel_rfl
noncomputable def F25_e (N : Nat) : Ent Try.prog := zB (zf Try.prog) (zk _) zm 25 Try.f25 Try.func25 rfl F25_an (lam N []) (zp (l := []) an (by kernel_rfl)) (ziL N) (fun _ => ⟨rfl, rfl⟩) (F25_text N) (fun _ _ _ h => zA h (fun _ _ => rfl) (fun _ _ => rfl)) (F25_parF N)
def F24_an : Nat → Keep × Keep := anL []
noncomputable def F24_g (N : Nat) : GamK := gam (P := Try.prog) []
noncomputable def ziX (N : Nat) : FSpec where
  X := Int × Int
  Y := Int
  ash := [[none], [none]]
  bsh := []
  S := ⟨[[none]], [], [], [], []⟩
  bm := false
  pat := fun a b => rdA [.int .i64, .int .i64] [] a b fun ⟨a0, a1, _⟩ _ => (a0, a1)
  args := fun x => [(AV.v (.int .i64 x.1)), (AV.v (.int .i64 x.2))]
  bs := fun x => []
  ret := fun y => ⟨(AV.v (.int .i64 y)), [], none, [], [], []⟩
  t := fun x α k => (match (decide (x.2 < 1)) with | true => (k 0) | false => (if x.2 = 0 then none else (match (decide ((x.1.tmod x.2) < 0)) with | true => (k (i64 ((x.1.tmod x.2) + x.2))) | false => (k (x.1.tmod x.2)))))
noncomputable abbrev F24_d (N : Nat) (x : Int × Int) : Option (Int) := (ziX N).d x
theorem F24_parF (N : Nat) : ParF (ziX N).t := by
  intro x α β k k' r r' h h1
  revert h
  dsimp only [ziX]
  (repeat' (first | (with_reducible refine zg ?_ ?_) | (with_reducible refine zc ?_ ?_) | split)) <;> intro h <;> first | exact h1 _ h | (cases h; done)
theorem F24_text (N : Nat) : TxOk (zt Try.prog) (F24_g N) F24_an (lam N []) Try.f24 (ziX N) := fun x => by kernel_rfl
noncomputable def F24_e (N : Nat) : Ent Try.prog := zB (zf Try.prog) (zk _) zm 24 Try.f24 Try.func24 rfl F24_an (lam N []) (zp (l := []) an (by kernel_rfl)) (ziX N) (fun _ => ⟨rfl, rfl⟩) (F24_text N) (fun _ _ _ h => zA h (fun _ _ => rfl) (fun _ _ => rfl)) (F24_parF N)
def F9_an : Nat → Keep × Keep := anL []
noncomputable def F9_g (N : Nat) : GamK := gam (P := Try.prog) [F25_e N, F24_e N]
noncomputable def F9_s (N : Nat) : FSpec where
  X := Int × (List (List AV)) × Int
  Y := Int × (List (List AV)) × Int
  ash := [[none], [none]]
  bsh := [[some 1, none]]
  S := ⟨[[none]], [[some 1, none]], [], [], []⟩
  bm := false
  pat := fun a b => rdA [.ptr 0 0, .int .i64] [.cells [.lst 1, .int .i64]] a b fun ⟨_, a0, _⟩ ⟨⟨a1, a2, _⟩, _⟩ => (a0, a1, a2)
  args := fun x => [(AV.ptr 0 0), (AV.v (.int .i64 x.1))]
  bs := fun x => [[(AV.list 1 x.2.1 none), (AV.v (.int .i64 x.2.2))]]
  ret := fun y => ⟨(AV.v (.int .i64 y.1)), [[(AV.list 1 y.2.1 none), (AV.v (.int .i64 y.2.2))]], none, [], [], []⟩
  t := fun x α k => (match F25_d N x.2 with | some y1 => (match F24_d N (y1.1, x.1) with | some y2 => (k (y2, y1.2)) | none => none) | none => none)
noncomputable abbrev F9_d (N : Nat) (x : Int × (List (List AV)) × Int) : Option (Int × (List (List AV)) × Int) := (F9_s N).d x
theorem F9_parF (N : Nat) : ParF (F9_s N).t := by
  intro x α β k k' r r' h h1
  revert h
  dsimp only [F9_s]
  (repeat' (first | (with_reducible refine zg ?_ ?_) | (with_reducible refine zc ?_ ?_) | split)) <;> intro h <;> first | exact h1 _ h | (cases h; done)
theorem F9_text (N : Nat) : TxOk (zt Try.prog) (F9_g N) F9_an (lam N []) Try.f9 (F9_s N) := fun x => by kernel_rfl
noncomputable def F9_e (N : Nat) : Ent Try.prog := zB (zf Try.prog) (zk _) zm 9 Try.f9 Try.func9 rfl F9_an (lam N []) (zp (l := []) an (by kernel_rfl)) (F9_s N) (fun _ => ⟨rfl, rfl⟩) (F9_text N) (fun _ _ _ h => zA h (fun _ _ => rfl) (fun _ _ => rfl)) (F9_parF N)
def F23_an : Nat → Keep × Keep := anL []
noncomputable def F23_g (N : Nat) : GamK := gam (P := Try.prog) [F9_e N]
noncomputable def zjc (N : Nat) : FSpec where
  X := (List (List AV)) × (List (List AV)) × Int
  Y := Int × (List (List AV)) × Int
  ash := [[none], [some 1]]
  bsh := [[some 1, none]]
  S := ⟨[[none]], [[some 1, none]], [], [], []⟩
  bm := false
  pat := fun a b => rdA [.ptr 0 0, .lst 1] [.cells [.lst 1, .int .i64]] a b fun ⟨_, a0, _⟩ ⟨⟨a1, a2, _⟩, _⟩ => (a0, a1, a2)
  args := fun x => [(AV.ptr 0 0), (AV.list 1 x.1 none)]
  bs := fun x => [[(AV.list 1 x.2.1 none), (AV.v (.int .i64 x.2.2))]]
  ret := fun y => ⟨(AV.v (.int .i64 y.1)), [[(AV.list 1 y.2.1 none), (AV.v (.int .i64 y.2.2))]], none, [], [], []⟩
  t := fun x α k => (match F9_d N ((x.1.length : Int), x.2) with | some y1 => (if 0 ≤ y1.1 then (match x.1[y1.1.toNat]? with | some c2 => (match c2[0]? with | some x3 => (match x3 with | .v (.int q5 n4) => (if q5 = .i64 then (k (n4, y1.2)) else none) | _ => none) | none => none) | none => none) else none) | none => none)
noncomputable abbrev zbg (N : Nat) (x : (List (List AV)) × (List (List AV)) × Int) : Option (Int × (List (List AV)) × Int) := (zjc N).d x
theorem F23_parF (N : Nat) : ParF (zjc N).t := by
  intro x α β k k' r r' h h1
  revert h
  dsimp only [zjc]
  (repeat' (first | (with_reducible refine zg ?_ ?_) | (with_reducible refine zc ?_ ?_) | split)) <;> intro h <;> first | exact h1 _ h | (cases h; done)
theorem F23_text (N : Nat) : TxOk (zt Try.prog) (F23_g N) F23_an (lam N []) Try.f23 (zjc N) := fun x => by kernel_rfl
noncomputable def F23_e (N : Nat) : Ent Try.prog := zB (zf Try.prog) (zk _) zm 23 Try.f23 Try.func23 rfl F23_an (lam N []) (zp (l := []) an (by kernel_rfl)) (zjc N) (fun _ => ⟨rfl, rfl⟩) (F23_text N) (fun _ _ _ h => zA h (fun _ _ => rfl) (fun _ _ => rfl)) (F23_parF N)
def ze9 : Nat → Keep × Keep := anL [(5, ⟨[0, 2, 3, 4], [], [0, 2, 3], [], [((2, 0), 4), ((3, 0), 4)], [], [], [], false⟩, ⟨[2, 3], [], [0, 2, 3], [], [((2, 0), 4), ((3, 0), 4)], [], [], [], false⟩)]
noncomputable def F8_g (N : Nat) : GamK := gam (P := Try.prog) [F23_e N, F9_e N]
noncomputable def JI (N : Nat) : LSpec where
  X := Int × (List (List AV)) × Int × (List (List AV)) × Int × Int × (List (List AV)) × Int × Int
  Y := ((List (List AV)) × Int × (List (List AV)) × Int × Int × (List (List AV)) × Int × Int)
  p := fun s => rdS 38 1 [(0, .ptr 0 0), (2, .ptr 2 0), (3, .ptr 3 0), (4, .int .i64)] [(0, .cells [.lst 1, .int .i64]), (2, .cells [.tok 4 6400524288, .int .i64, .int .i64]), (3, .cells [.tok 4 6400786432, .int .i64, .int .i64])] s fun ⟨_, _, _, a0, _⟩ ⟨⟨a1, a2, _⟩, ⟨a3, a4, a5, _⟩, ⟨a6, a7, a8, _⟩, _⟩ => (a0, a1, a2, a3, a4, a5, a6, a7, a8)
  st := fun u5 => mkS 38 [(0, (AV.ptr 0 0)), (2, (AV.ptr 2 0)), (3, (AV.ptr 3 0)), (4, (AV.v (.int .i64 u5.1)))] [(0, [(AV.list 1 u5.2.1 none), (AV.v (.int .i64 u5.2.2.1))]), (2, [(AV.list 4 u5.2.2.2.1 (some 6400524288)), (AV.v (.int .i64 u5.2.2.2.2.1)), (AV.v (.int .i64 u5.2.2.2.2.2.1))]), (3, [(AV.list 4 u5.2.2.2.2.2.2.1 (some 6400786432)), (AV.v (.int .i64 u5.2.2.2.2.2.2.2.1)), (AV.v (.int .i64 u5.2.2.2.2.2.2.2.2))])] (ze9 5).1.toks 1
  out := fun y => (.exit 0, mkS 38 [(2, (AV.ptr 2 0)), (3, (AV.ptr 3 0))] [(0, [(AV.list 1 y.1 none), (AV.v (.int .i64 y.2.1))]), (2, [(AV.list 4 y.2.2.1 (some 6400524288)), (AV.v (.int .i64 y.2.2.2.1)), (AV.v (.int .i64 y.2.2.2.2.1))]), (3, [(AV.list 4 y.2.2.2.2.2.1 (some 6400786432)), (AV.v (.int .i64 y.2.2.2.2.2.2.1)), (AV.v (.int .i64 y.2.2.2.2.2.2.2))])] (ze9 5).2.toks 1)
  sp := fun y α k => k (.exit 0, mkS 38 [(2, (AV.ptr 2 0)), (3, (AV.ptr 3 0))] [(0, [(AV.list 1 y.1 none), (AV.v (.int .i64 y.2.1))]), (2, [(AV.list 4 y.2.2.1 (some 6400524288)), (AV.v (.int .i64 y.2.2.2.1)), (AV.v (.int .i64 y.2.2.2.2.1))]), (3, [(AV.list 4 y.2.2.2.2.2.1 (some 6400786432)), (AV.v (.int .i64 y.2.2.2.2.2.2.1)), (AV.v (.int .i64 y.2.2.2.2.2.2.2))])] (ze9 5).2.toks 1)
  spe := fun y α k => rfl
  b := fun u5 α kn ke => (match (decide (u5.1 > 0)) with | true => (match F9_d N (400, u5.2.1, u5.2.2.1) with | some y8 => (match F9_d N (4, y8.2) with | some y9 => (match zbg N ([[(AV.v (.int .i64 0))], [(AV.v (.int .i64 10))], [(AV.v (.int .i64 100))], [(AV.v (.int .i64 10000))]], y9.2) with | some y10 => (match zbg N ([[(AV.v (.int .i64 0))], [(AV.v (.int .i64 500))], [(AV.v (.int .i64 2000))], [(AV.v (.int .i64 100000))]], y10.2) with | some y11 => (if (u5.2.2.2.2.2.2.1.length + [(Ren4 ((i64 (y8.1 - 100)), (i64 (1 + y9.1)), y10.1, y11.1, ()))].length) * 32 ≤ zl then (kn ((i64 (u5.1 - 1)), y11.2.1, y11.2.2, u5.2.2.2.1, u5.2.2.2.2.1, u5.2.2.2.2.2.1, (u5.2.2.2.2.2.2.1 ++ [(Ren4 ((i64 (y8.1 - 100)), (i64 (1 + y9.1)), y10.1, y11.1, ()))]), u5.2.2.2.2.2.2.2)) else none) | none => none) | none => none) | none => none) | none => none) | false => (ke u5.2))
noncomputable abbrev F8_d5 (N : Nat) (x : Int × (List (List AV)) × Int × (List (List AV)) × Int × Int × (List (List AV)) × Int × Int) : Option (((List (List AV)) × Int × (List (List AV)) × Int × Int × (List (List AV)) × Int × Int)) := (JI N).L N x
noncomputable def F8_s (N : Nat) : FSpec where
  X := (List (List AV)) × Int
  Y := (List (List AV)) × Int × Int × (List (List AV)) × Int
  ash := [[none]]
  bsh := [[some 1, none]]
  S := ⟨[[some 4, none, none]], [[some 1, none]], [], [], []⟩
  bm := false
  pat := fun a b => rdA [.ptr 0 0] [.cells [.lst 1, .int .i64]] a b fun ⟨_, _⟩ ⟨⟨a0, a1, _⟩, _⟩ => (a0, a1)
  args := fun x => [(AV.ptr 0 0)]
  bs := fun x => [[(AV.list 1 x.1 none), (AV.v (.int .i64 x.2))]]
  ret := fun y => ⟨(AV.agg [(AV.list 4 y.1 none), (AV.v (.int .i64 y.2.1)), (AV.v (.int .i64 y.2.2.1))]), [[(AV.list 1 y.2.2.2.1 none), (AV.v (.int .i64 y.2.2.2.2))]], none, [], [], []⟩
  t := fun x α k => (match zbg N ([[(AV.v (.int .i64 0))], [(AV.v (.int .i64 2))], [(AV.v (.int .i64 10))], [(AV.v (.int .i64 1000))]], x) with | some y1 => (match zbg N ([[(AV.v (.int .i64 0))], [(AV.v (.int .i64 0))], [(AV.v (.int .i64 50))], [(AV.v (.int .i64 500))]], y1.2) with | some y2 => (match F9_d N (3, y2.2) with | some y3 => (match F8_d5 N ((i64 (1 + y3.1)), y3.2.1, y3.2.2, ([] : List (List AV)), 0, 0, ([] : List (List AV)), y1.1, y2.1) with | some y12 => (k (y12.2.2.2.2.2.1, y12.2.2.2.2.2.2.1, y12.2.2.2.2.2.2.2, y12.1, y12.2.1)) | none => none) | none => none) | none => none) | none => none)
noncomputable abbrev F8_d (N : Nat) (x : (List (List AV)) × Int) : Option ((List (List AV)) × Int × Int × (List (List AV)) × Int) := (F8_s N).d x
noncomputable def zlH (N : Nat) : List (Nat × LSpec) := [(5, JI N)]
noncomputable def F8_c : Code := Try.f8.body.getD .skip
theorem F8_par5 (N : Nat) : Par (JI N).b := by
  intro x α β kn ke kn' ke' r r' h h1 h2
  revert h
  dsimp only [JI]
  (repeat' (first | (with_reducible refine zg ?_ ?_) | (with_reducible refine zc ?_ ?_) | split)) <;> intro h <;> first | exact h1 _ h | exact h2 _ h | (cases h; done)
theorem F8_body5 (N : Nat) : BdOk (zt Try.prog) (F8_g N) ze9 N (zlH N) 5 F8_c (JI N) := fun x α kn ke => by kernel_rfl
theorem F8_loop5 (N : Nat) : LpOk Try.prog ze9 N (zlH N) 5 (zd 5 F8_c) :=
  zE (zf Try.prog) (zk _) zm ze9 N (zlH N) 5 F8_c (l := []) (by kernel_rfl) (by kernel_rfl) an (JI N) rfl (fun s x hc h => by dsimp only [JI] at h; exact zH hc h (fun _ _ => rfl) rfl rfl) (fun _ => rfl) (F8_body5 N) (F8_par5 N)
theorem F8_parF (N : Nat) : ParF (F8_s N).t := by
  intro x α β k k' r r' h h1
  revert h
  dsimp only [F8_s]
  (repeat' (first | (with_reducible refine zg ?_ ?_) | (with_reducible refine zc ?_ ?_) | split)) <;> intro h <;> first | exact h1 _ h | (cases h; done)
theorem F8_text (N : Nat) : TxOk (zt Try.prog) (F8_g N) ze9 (lam N (zlH N)) Try.f8 (F8_s N) := fun x => by kernel_rfl
noncomputable def F8_e (N : Nat) : Ent Try.prog := zB (zf Try.prog) (zk _) zm 8 Try.f8 Try.func8 rfl ze9 (lam N (zlH N)) (zp (l := [(5, zd 5 F8_c)]) (al (F8_loop5 N) an) (by kernel_rfl)) (F8_s N) (fun _ => ⟨rfl, rfl⟩) (F8_text N) (fun _ _ _ h => zA h (fun _ _ => rfl) (fun _ _ => rfl)) (F8_parF N)
abbrev RK8 : List Ck := [.str, .str, .str, .str, .int .i64, .int .i64, .int .i64, .int .i64, .int .i64, .tk 9 6401049152, .int .i64, .int .i64, .int .i64, .int .i64, .int .i64, .int .i64, .int .i64, .int .i64, .int .i64, .int .i64, .int .i64, .int .i64, .int .i64, .int .i64, .int .i64]
abbrev RT8 : Type := ByteArray × ByteArray × ByteArray × ByteArray × Int × Int × Int × Int × Int × (List (List AV)) × Int × Int × Int × Int × Int × Int × Int × Int × Int × Int × Int × Int × Int × Int × Int × Unit
def Ren8 (e : RT8) : List AV := enc RK8 e
def F35_an : Nat → Keep × Keep := anL []
noncomputable def F35_g (N : Nat) : GamK := gam (P := Try.prog) [F24_e N]
noncomputable def zkY (N : Nat) : FSpec where
  X := Int
  Y := RT2
  ash := [[none]]
  bsh := []
  S := ⟨[[none, none, none, none]], [], [], [], []⟩
  bm := false
  pat := fun a b => rdA [.int .i64] [] a b fun ⟨a0, _⟩ _ => a0
  args := fun x => [(AV.v (.int .i64 x))]
  bs := fun x => []
  ret := fun y => ⟨(AV.agg (Ren2 y)), [], none, [], [], []⟩
  t := fun x α k => (match F24_d N (x, 6) with | some y1 => (if 0 ≤ y1 then (match [[(AV.v (.string (⟨#[83, 49]⟩ : ByteArray)))], [(AV.v (.string (⟨#[83, 50]⟩ : ByteArray)))], [(AV.v (.string (⟨#[83, 51]⟩ : ByteArray)))], [(AV.v (.string (⟨#[83, 52]⟩ : ByteArray)))], [(AV.v (.string (⟨#[83, 53]⟩ : ByteArray)))], [(AV.v (.string (⟨#[83, 54]⟩ : ByteArray)))]][y1.toNat]? with | some c2 => (match c2[0]? with | some x3 => (match x3 with | .v (.string s4) => (k ((⟨#[65, 66]⟩ : ByteArray), s4, (⟨#[48, 48]⟩ : ByteArray), (⟨#[66, 72, 90]⟩ : ByteArray), ())) | _ => none) | none => none) | none => none) else none) | none => none)
noncomputable abbrev F35_d (N : Nat) (x : Int) : Option (RT2) := (zkY N).d x
theorem F35_parF (N : Nat) : ParF (zkY N).t := by
  intro x α β k k' r r' h h1
  revert h
  dsimp only [zkY]
  (repeat' (first | (with_reducible refine zg ?_ ?_) | (with_reducible refine zc ?_ ?_) | split)) <;> intro h <;> first | exact h1 _ h | (cases h; done)
theorem F35_text (N : Nat) : TxOk (zt Try.prog) (F35_g N) F35_an (lam N []) Try.f35 (zkY N) := fun x => by kernel_rfl
noncomputable def F35_e (N : Nat) : Ent Try.prog := zB (zf Try.prog) (zk _) zm 35 Try.f35 Try.func35 rfl F35_an (lam N []) (zp (l := []) an (by kernel_rfl)) (zkY N) (fun _ => ⟨rfl, rfl⟩) (F35_text N) (fun _ _ _ h => zA h (fun _ _ => rfl) (fun _ _ => rfl)) (F35_parF N)
def F42_an : Nat → Keep × Keep := anL []
noncomputable def F42_g (N : Nat) : GamK := gam (P := Try.prog) [F9_e N]
noncomputable def zhI (N : Nat) : FSpec where
  X := Int × (List (List AV)) × Int
  Y := Int × Int × Int × (List (List AV)) × Int
  ash := [[none], [none]]
  bsh := [[some 1, none]]
  S := ⟨[[none, none, none]], [[some 1, none]], [], [], []⟩
  bm := false
  pat := fun a b => rdA [.ptr 0 0, .int .i64] [.cells [.lst 1, .int .i64]] a b fun ⟨_, a0, _⟩ ⟨⟨a1, a2, _⟩, _⟩ => (a0, a1, a2)
  args := fun x => [(AV.ptr 0 0), (AV.v (.int .i64 x.1))]
  bs := fun x => [[(AV.list 1 x.2.1 none), (AV.v (.int .i64 x.2.2))]]
  ret := fun y => ⟨(AV.agg [(AV.v (.int .i64 y.1)), (AV.v (.int .i64 y.2.1)), (AV.v (.int .i64 y.2.2.1))]), [[(AV.list 1 y.2.2.2.1 none), (AV.v (.int .i64 y.2.2.2.2))]], none, [], [], []⟩
  t := fun x α k => (match F9_d N ((i64 ((i64 (2 * x.1)) + 1)), x.2) with | some y1 => (match F9_d N ((i64 ((i64 (2 * x.1)) + 1)), y1.2) with | some y2 => (match F9_d N ((i64 (x.1 + 1)), y2.2) with | some y3 => (k ((i64 (y1.1 - x.1)), (i64 (y2.1 - x.1)), y3)) | none => none) | none => none) | none => none)
noncomputable abbrev F42_d (N : Nat) (x : Int × (List (List AV)) × Int) : Option (Int × Int × Int × (List (List AV)) × Int) := (zhI N).d x
theorem F42_parF (N : Nat) : ParF (zhI N).t := by
  intro x α β k k' r r' h h1
  revert h
  dsimp only [zhI]
  (repeat' (first | (with_reducible refine zg ?_ ?_) | (with_reducible refine zc ?_ ?_) | split)) <;> intro h <;> first | exact h1 _ h | (cases h; done)
theorem F42_text (N : Nat) : TxOk (zt Try.prog) (F42_g N) F42_an (lam N []) Try.f42 (zhI N) := fun x => by kernel_rfl
noncomputable def F42_e (N : Nat) : Ent Try.prog := zB (zf Try.prog) (zk _) zm 42 Try.f42 Try.func42 rfl F42_an (lam N []) (zp (l := []) an (by kernel_rfl)) (zhI N) (fun _ => ⟨rfl, rfl⟩) (F42_text N) (fun _ _ _ h => zA h (fun _ _ => rfl) (fun _ _ => rfl)) (F42_parF N)
abbrev RK10 : List Ck := [.str, .str, .str, .str, .int .i64, .int .i64, .int .i64, .int .i64, .int .i64, .vs 2020489 9, .int .i64, .int .i64, .int .i64, .int .i64, .int .i64, .int .i64, .int .i64, .int .i64, .int .i64, .int .i64, .int .i64, .int .i64, .int .i64, .int .i64, .int .i64]
abbrev RT10 : Type := ByteArray × ByteArray × ByteArray × ByteArray × Int × Int × Int × Int × Int × Nat × Int × Int × Int × Int × Int × Int × Int × Int × Int × Int × Int × Int × Int × Int × Int × Unit
def Ren10 (e : RT10) : List AV := enc RK10 e
abbrev RK11 : List Ck := [.str, .str, .str, .str, .int .i64, .int .i64, .int .i64, .int .i64, .int .i64, .vs 1 9, .int .i64, .int .i64, .int .i64, .int .i64, .int .i64, .int .i64, .int .i64, .int .i64, .int .i64, .int .i64, .int .i64, .int .i64, .int .i64, .int .i64, .int .i64]
abbrev RT11 : Type := ByteArray × ByteArray × ByteArray × ByteArray × Int × Int × Int × Int × Int × Nat × Int × Int × Int × Int × Int × Int × Int × Int × Int × Int × Int × Int × Int × Int × Int × Unit
def Ren11 (e : RT11) : List AV := enc RK11 e
def Jl : Nat → Keep × Keep := anL [(6, ⟨[0, 1, 4, 5, 6, 7], [], [0, 4, 5], [], [((4, 9), 9)], [], [((5, 9), 9)], [], false⟩, ⟨[0, 4, 5, 6], [], [0, 4, 5], [], [((4, 9), 9)], [], [((5, 9), 9)], [], false⟩)]
noncomputable def F26a_g (N : Nat) : GamK := gam (P := Try.prog) [F9_e N, F35_e N, F42_e N, F23_e N]
noncomputable def Zn (N : Nat) : LSpec where
  X := Int × Int × Int × (List (List AV)) × Int × RT8 × RT10 × (List AV)
  Y := (Int × (List (List AV)) × Int × RT8 × RT10 × (List AV))
  p := fun s => rdS 98 1 [(0, .ptr 0 0), (1, .int .i64), (4, .ptr 4 0), (5, .ptr 5 0), (6, .int .i64), (7, .int .i64)] [(0, .cells [.lst 1, .int .i64]), (4, .row RK8), (5, .row RK10), (2020489, .tt)] s fun ⟨_, a0, _, _, a1, a2, _⟩ ⟨⟨a3, a4, _⟩, a5, a6, a7, _⟩ => (a0, a1, a2, a3, a4, a5, a6, a7)
  st := fun u6 => mkS 98 [(0, (AV.ptr 0 0)), (1, (AV.v (.int .i64 u6.1))), (4, (AV.ptr 4 0)), (5, (AV.ptr 5 0)), (6, (AV.v (.int .i64 u6.2.1))), (7, (AV.v (.int .i64 u6.2.2.1)))] [(0, [(AV.list 1 u6.2.2.2.1 none), (AV.v (.int .i64 u6.2.2.2.2.1))]), (4, (Ren8 u6.2.2.2.2.2.1)), (5, (Ren10 u6.2.2.2.2.2.2.1)), (2020489, u6.2.2.2.2.2.2.2)] (Jl 6).1.toks 1
  out := fun y => (.exit 0, mkS 98 [(0, (AV.ptr 0 0)), (4, (AV.ptr 4 0)), (5, (AV.ptr 5 0)), (6, (AV.v (.int .i64 y.1)))] [(0, [(AV.list 1 y.2.1 none), (AV.v (.int .i64 y.2.2.1))]), (4, (Ren8 y.2.2.2.1)), (5, (Ren10 y.2.2.2.2.1)), (2020489, y.2.2.2.2.2)] (Jl 6).2.toks 1)
  sp := fun y α k => k (.exit 0, mkS 98 [(0, (AV.ptr 0 0)), (4, (AV.ptr 4 0)), (5, (AV.ptr 5 0)), (6, (AV.v (.int .i64 y.1)))] [(0, [(AV.list 1 y.2.1 none), (AV.v (.int .i64 y.2.2.1))]), (4, (Ren8 y.2.2.2.1)), (5, (Ren10 y.2.2.2.2.1)), (2020489, y.2.2.2.2.2)] (Jl 6).2.toks 1)
  spe := fun y α k => rfl
  b := fun u6 α kn ke => (match F9_d N (4, u6.2.2.2.1, u6.2.2.2.2.1) with | some y5 => (match (decide (u6.2.2.1 < (i64 (1 + y5.1)))) with | true => (match F35_d N u6.2.2.1 with | some y6 => (match F9_d N (3, y5.2) with | some y7 => (if u6.2.2.2.2.2.2.1.2.2.2.2.2.2.2.2.2.1 * 9 ≤ u6.2.2.2.2.2.2.2.length ∧ (u6.2.2.2.2.2.2.1.2.2.2.2.2.2.2.2.2.1 + [(Ren1 (y6.1, y6.2.1, y6.2.2.1, y6.2.2.2.1, (i64 (u6.2.1 + (i64 (10 * u6.1)))), (i64 (u6.2.1 + (i64 (10 * u6.1)))), (i64 ((i64 (u6.2.1 + (i64 (10 * u6.1)))) + y7.1)), u6.1, 0, ()))].length) * 104 ≤ zl then (kn (u6.1, u6.2.1, (i64 (u6.2.2.1 + 1)), y7.2.1, y7.2.2, u6.2.2.2.2.2.1, (u6.2.2.2.2.2.2.1.1, u6.2.2.2.2.2.2.1.2.1, u6.2.2.2.2.2.2.1.2.2.1, u6.2.2.2.2.2.2.1.2.2.2.1, u6.2.2.2.2.2.2.1.2.2.2.2.1, u6.2.2.2.2.2.2.1.2.2.2.2.2.1, u6.2.2.2.2.2.2.1.2.2.2.2.2.2.1, u6.2.2.2.2.2.2.1.2.2.2.2.2.2.2.1, u6.2.2.2.2.2.2.1.2.2.2.2.2.2.2.2.1, (u6.2.2.2.2.2.2.1.2.2.2.2.2.2.2.2.2.1 + [(Ren1 (y6.1, y6.2.1, y6.2.2.1, y6.2.2.2.1, (i64 (u6.2.1 + (i64 (10 * u6.1)))), (i64 (u6.2.1 + (i64 (10 * u6.1)))), (i64 ((i64 (u6.2.1 + (i64 (10 * u6.1)))) + y7.1)), u6.1, 0, ()))].length), u6.2.2.2.2.2.2.1.2.2.2.2.2.2.2.2.2.2), ((u6.2.2.2.2.2.2.2.take (u6.2.2.2.2.2.2.1.2.2.2.2.2.2.2.2.2.1 * 9) ++ [(Ren1 (y6.1, y6.2.1, y6.2.2.1, y6.2.2.2.1, (i64 (u6.2.1 + (i64 (10 * u6.1)))), (i64 (u6.2.1 + (i64 (10 * u6.1)))), (i64 ((i64 (u6.2.1 + (i64 (10 * u6.1)))) + y7.1)), u6.1, 0, ()))].flatten).map dat0))) else none) | none => none) | none => none) | false => (ke (u6.2.1, y5.2.1, y5.2.2, u6.2.2.2.2.2.1, u6.2.2.2.2.2.2.1, (u6.2.2.2.2.2.2.2.map dat0)))) | none => none)
noncomputable abbrev zjO (N : Nat) (x : Int × Int × Int × (List (List AV)) × Int × RT8 × RT10 × (List AV)) : Option ((Int × (List (List AV)) × Int × RT8 × RT10 × (List AV))) := (Zn N).L N x
noncomputable def zdi (N : Nat) : FSpec where
  X := Int × (List (List AV)) × Int
  Y := RT11 × (List (List AV)) × Int × (List AV)
  ash := [[none], [none]]
  bsh := [[some 1, none]]
  S := ⟨[[none, none, none, none, none, none, none, none, none, some 9, none, none, none, none, none, none, none, none, none, none, none, none, none, none, none]], [[some 1, none]], [], [], []⟩
  bm := true
  pat := fun a b => rdA [.ptr 0 0, .int .i64] [.cells [.lst 1, .int .i64]] a b fun ⟨_, a0, _⟩ ⟨⟨a1, a2, _⟩, _⟩ => (a0, a1, a2)
  args := fun x => [(AV.ptr 0 0), (AV.v (.int .i64 x.1))]
  bs := fun x => [[(AV.list 1 x.2.1 none), (AV.v (.int .i64 x.2.2))]]
  ret := fun y => ⟨(AV.agg (Ren11 y.1)), [[(AV.list 1 y.2.1 none), (AV.v (.int .i64 y.2.2.1))]], some y.2.2.2, [], [], []⟩
  t := fun x α k => (match F9_d N (300, x.2) with | some y1 => (match zjO N (x.1, (i64 (1000 + y1.1)), 0, y1.2.1, y1.2.2, ((⟨#[]⟩ : ByteArray), (⟨#[]⟩ : ByteArray), (⟨#[]⟩ : ByteArray), (⟨#[]⟩ : ByteArray), 0, 0, 0, 0, 0, ([] : List (List AV)), 0, 0, 0, 0, 0, 0, 0, 0, 0, 0, 0, 0, 0, 0, 0, ()), ((⟨#[]⟩ : ByteArray), (⟨#[]⟩ : ByteArray), (⟨#[]⟩ : ByteArray), (⟨#[]⟩ : ByteArray), 0, 0, 0, 0, 0, 0, 0, 0, 0, 0, 0, 0, 0, 0, 0, 0, 0, 0, 0, 0, 0, ()), ([] : List AV)) with | some y8 => (if 0 ≤ (0 : Int) ∧ (0 : Int) < (y8.2.2.2.2.1.2.2.2.2.2.2.2.2.2.1 : Int) then (match Rrd1 (y8.2.2.2.2.2.drop ((0 + (0 : Int).toNat) * 9)) with | some e9 => (match F42_d N (20, y8.2.1, y8.2.2.1) with | some y10 => (match F9_d N (40, y10.2.2.2) with | some y11 => (match zbg N ([[(AV.v (.int .i64 0))], [(AV.v (.int .i64 0))], [(AV.v (.int .i64 5))], [(AV.v (.int .i64 500))]], y11.2) with | some y12 => (match F9_d N (3, y12.2) with | some y13 => (match (decide (y13.1 > 0)) with | true => (match F9_d N (400, y13.2) with | some y14 => (match F9_d N (60, y14.2) with | some y15 => (k ((e9.1, e9.2.1, e9.2.2.1, e9.2.2.2.1, e9.2.2.2.2.1, e9.2.2.2.2.2.1, e9.2.2.2.2.2.2.1, e9.2.2.2.2.2.2.2.1, e9.2.2.2.2.2.2.2.2.1, y8.2.2.2.2.1.2.2.2.2.2.2.2.2.2.1, y10.1, y10.2.1, y10.2.2.1, (i64 (y8.1 - y11.1)), y12.1, 0, y10.1, y10.2.1, y10.2.2.1, y10.1, y10.2.1, y10.2.2.1, y14.1, (i64 (y14.1 + y15.1)), y13.1, ()), y15.2.1, y15.2.2, (y8.2.2.2.2.2.map dat0))) | none => none) | none => none) | false => (k ((e9.1, e9.2.1, e9.2.2.1, e9.2.2.2.1, e9.2.2.2.2.1, e9.2.2.2.2.2.1, e9.2.2.2.2.2.2.1, e9.2.2.2.2.2.2.2.1, e9.2.2.2.2.2.2.2.2.1, y8.2.2.2.2.1.2.2.2.2.2.2.2.2.2.1, y10.1, y10.2.1, y10.2.2.1, (i64 (y8.1 - y11.1)), y12.1, 0, y10.1, y10.2.1, y10.2.2.1, y10.1, y10.2.1, y10.2.2.1, y8.2.2.2.2.1.2.2.2.2.2.2.2.2.2.2.2.2.2.2.2.2.2.2.2.2.2.2.1, y8.2.2.2.2.1.2.2.2.2.2.2.2.2.2.2.2.2.2.2.2.2.2.2.2.2.2.2.2.1, y13.1, ()), y13.2.1, y13.2.2, (y8.2.2.2.2.2.map dat0)))) | none => none) | none => none) | none => none) | none => none) | none => none) else none) | none => none) | none => none)
noncomputable abbrev zli (N : Nat) (x : Int × (List (List AV)) × Int) : Option (RT11 × (List (List AV)) × Int × (List AV)) := (zdi N).d x
noncomputable def zcf (N : Nat) : List (Nat × LSpec) := [(6, Zn N)]
noncomputable def zgZ : Code := Try.f26.body.getD .skip
theorem zkL (N : Nat) : Par (Zn N).b := by
  intro x α β kn ke kn' ke' r r' h h1 h2
  revert h
  dsimp only [Zn]
  (repeat' (first | (with_reducible refine zg ?_ ?_) | (with_reducible refine zc ?_ ?_) | split)) <;> intro h <;> first | exact h1 _ h | exact h2 _ h | (cases h; done)
theorem zhv (N : Nat) : BdOk (tabB Try.prog [41]) (F26a_g N) Jl N (zcf N) 6 zgZ (Zn N) := fun x α kn ke => by kernel_rfl
theorem zhy (N : Nat) : LpOk Try.prog Jl N (zcf N) 6 (zd 6 zgZ) :=
  zE (zL Try.prog [41]) (zk _) zm Jl N (zcf N) 6 zgZ (l := []) (by kernel_rfl) (by kernel_rfl) an (Zn N) rfl (fun s x hc h => by dsimp only [Zn] at h; exact zH hc h (fun _ _ => rfl) rfl rfl) (fun _ => rfl) (zhv N) (zkL N)
theorem zke (N : Nat) : ParF (zdi N).t := by
  intro x α β k k' r r' h h1
  revert h
  dsimp only [zdi]
  (repeat' (first | (with_reducible refine zg ?_ ?_) | (with_reducible refine zc ?_ ?_) | split)) <;> intro h <;> first | exact h1 _ h | (cases h; done)
theorem zki (N : Nat) : TxOk (tabB Try.prog [41]) (F26a_g N) Jl (lam N (zcf N)) Try.f26 (zdi N) := fun x => by kernel_rfl
noncomputable def F26a_e (N : Nat) : Ent Try.prog := zB (zL Try.prog [41]) (zk _) zm 26 Try.f26 Try.func26 rfl Jl (lam N (zcf N)) (zp (l := [(6, zd 6 zgZ)]) (al (zhy N) an) (by kernel_rfl)) (zdi N) (fun _ => ⟨rfl, rfl⟩) (zki N) (fun _ _ _ h => zA h (fun _ _ => rfl) (fun _ _ => rfl)) (zke N)
abbrev RK12 : List Ck := [.str, .str, .str, .str, .int .i64, .int .i64, .int .i64, .int .i64, .int .i64, .vs 19 9, .int .i64, .int .i64, .int .i64, .int .i64, .int .i64, .int .i64, .int .i64, .int .i64, .int .i64, .int .i64, .int .i64, .int .i64, .int .i64, .int .i64, .int .i64]
abbrev RT12 : Type := ByteArray × ByteArray × ByteArray × ByteArray × Int × Int × Int × Int × Int × Nat × Int × Int × Int × Int × Int × Int × Int × Int × Int × Int × Int × Int × Int × Int × Int × Unit
def Ren12 (e : RT12) : List AV := enc RK12 e
def jM : Nat → Keep × Keep := anF [(5, ⟨[0, 1, 6], [], [0], [], [], [(5, 25)], [], [], false⟩, ⟨[], [], [0], [], [], [(5, 25)], [], [], false⟩), (18, ⟨[0, 1, 5, 6, 7, 23, 24], [], [0, 7, 19, 1000005], [], [], [], [], [19, 1000005], false⟩, ⟨[0, 1, 5, 6, 7], [], [0, 7, 19, 1000005], [], [], [], [], [19, 1000005], false⟩)] [(100015, ([], [((7, 9), 9)])), (100016, ([5], []))]
noncomputable def F10_g (N : Nat) : GamK := gam (P := Try.prog) [F9_e N, F26a_e N]
noncomputable def ZF (N : Nat) : LSpec where
  X := Int × Nat × Int × Int × Int × (List (List AV)) × Int × RT12 × (List AV) × (List AV)
  Y := (Int × Nat × Int × (List (List AV)) × Int × RT12 × (List AV) × (List AV))
  p := fun s => rdS 86 1 [(0, .ptr 0 0), (1, .int .i64), (5, .vs0 1000005 25), (6, .int .i64), (7, .ptr 7 0), (23, .int .i64), (24, .int .i64)] [(0, .cells [.lst 1, .int .i64]), (7, .row RK12), (19, .tt), (1000005, .tt)] s fun ⟨_, a0, a1, a2, _, a3, a4, _⟩ ⟨⟨a5, a6, _⟩, a7, a8, a9, _⟩ => (a0, a1, a2, a3, a4, a5, a6, a7, a8, a9)
  st := fun u18 => mkS 86 [(0, (AV.ptr 0 0)), (1, (AV.v (.int .i64 u18.1))), (5, (AV.vs 1000005 0 u18.2.1 25)), (6, (AV.v (.int .i64 u18.2.2.1))), (7, (AV.ptr 7 0)), (23, (AV.v (.int .i64 u18.2.2.2.1))), (24, (AV.v (.int .i64 u18.2.2.2.2.1)))] [(0, [(AV.list 1 u18.2.2.2.2.2.1 none), (AV.v (.int .i64 u18.2.2.2.2.2.2.1))]), (7, (Ren12 u18.2.2.2.2.2.2.2.1)), (19, u18.2.2.2.2.2.2.2.2.1), (1000005, u18.2.2.2.2.2.2.2.2.2)] (jM 18).1.toks 1
  out := fun y => (.exit 2, mkS 86 [(0, (AV.ptr 0 0)), (1, (AV.v (.int .i64 y.1))), (5, (AV.vs 1000005 0 y.2.1 25)), (6, (AV.v (.int .i64 y.2.2.1))), (7, (AV.ptr 7 0))] [(0, [(AV.list 1 y.2.2.2.1 none), (AV.v (.int .i64 y.2.2.2.2.1))]), (7, (Ren12 y.2.2.2.2.2.1)), (19, y.2.2.2.2.2.2.1), (1000005, y.2.2.2.2.2.2.2)] (jM 18).2.toks 1)
  sp := fun y α k => k (.exit 2, mkS 86 [(0, (AV.ptr 0 0)), (1, (AV.v (.int .i64 y.1))), (5, (AV.vs 1000005 0 y.2.1 25)), (6, (AV.v (.int .i64 y.2.2.1))), (7, (AV.ptr 7 0))] [(0, [(AV.list 1 y.2.2.2.1 none), (AV.v (.int .i64 y.2.2.2.2.1))]), (7, (Ren12 y.2.2.2.2.2.1)), (19, y.2.2.2.2.2.2.1), (1000005, y.2.2.2.2.2.2.2)] (jM 18).2.toks 1)
  spe := fun y α k => rfl
  b := fun u18 α kn ke => (match (decide (u18.2.2.2.2.1 < u18.2.2.2.1)) with | true => (if 0 ≤ u18.2.2.2.2.1 ∧ u18.2.2.2.2.1 < (u18.2.2.2.2.2.2.2.1.2.2.2.2.2.2.2.2.2.1 : Int) then (if (((0 + u18.2.2.2.2.1.toNat) * 9) + 4) + 1 ≤ u18.2.2.2.2.2.2.2.2.1.length then (if (((0 + u18.2.2.2.2.1.toNat) * 9) + 5) + 1 ≤ (splice u18.2.2.2.2.2.2.2.2.1 (((0 + u18.2.2.2.2.1.toNat) * 9) + 4) [(AV.v (.int .i64 (i64 ((i64 (1000 + (i64 (400 * u18.2.2.1)))) + u18.2.2.2.2.1))))]).length then (if (((0 + u18.2.2.2.2.1.toNat) * 9) + 6) + 1 ≤ (splice (splice u18.2.2.2.2.2.2.2.2.1 (((0 + u18.2.2.2.2.1.toNat) * 9) + 4) [(AV.v (.int .i64 (i64 ((i64 (1000 + (i64 (400 * u18.2.2.1)))) + u18.2.2.2.2.1))))]) (((0 + u18.2.2.2.2.1.toNat) * 9) + 5) [(AV.v (.int .i64 (i64 ((i64 (1000 + (i64 (400 * u18.2.2.1)))) + u18.2.2.2.2.1))))]).length then (if (((0 + u18.2.2.2.2.1.toNat) * 9) + 7) + 1 ≤ (splice (splice (splice u18.2.2.2.2.2.2.2.2.1 (((0 + u18.2.2.2.2.1.toNat) * 9) + 4) [(AV.v (.int .i64 (i64 ((i64 (1000 + (i64 (400 * u18.2.2.1)))) + u18.2.2.2.2.1))))]) (((0 + u18.2.2.2.2.1.toNat) * 9) + 5) [(AV.v (.int .i64 (i64 ((i64 (1000 + (i64 (400 * u18.2.2.1)))) + u18.2.2.2.2.1))))]) (((0 + u18.2.2.2.2.1.toNat) * 9) + 6) [(AV.v (.int .i64 (i64 ((i64 ((i64 (1000 + (i64 (400 * u18.2.2.1)))) + u18.2.2.2.2.1)) + 2))))]).length then (kn (u18.1, u18.2.1, u18.2.2.1, u18.2.2.2.1, (i64 (u18.2.2.2.2.1 + 1)), u18.2.2.2.2.2.1, u18.2.2.2.2.2.2.1, u18.2.2.2.2.2.2.2.1, ((splice (splice (splice (splice u18.2.2.2.2.2.2.2.2.1 (((0 + u18.2.2.2.2.1.toNat) * 9) + 4) [(AV.v (.int .i64 (i64 ((i64 (1000 + (i64 (400 * u18.2.2.1)))) + u18.2.2.2.2.1))))]) (((0 + u18.2.2.2.2.1.toNat) * 9) + 5) [(AV.v (.int .i64 (i64 ((i64 (1000 + (i64 (400 * u18.2.2.1)))) + u18.2.2.2.2.1))))]) (((0 + u18.2.2.2.2.1.toNat) * 9) + 6) [(AV.v (.int .i64 (i64 ((i64 ((i64 (1000 + (i64 (400 * u18.2.2.1)))) + u18.2.2.2.2.1)) + 2))))]) (((0 + u18.2.2.2.2.1.toNat) * 9) + 7) [(AV.v (.int .i64 7))]).map dat0), (u18.2.2.2.2.2.2.2.2.2.map dat0))) else none) else none) else none) else none) else none) | false => (ke (u18.1, u18.2.1, u18.2.2.1, u18.2.2.2.2.2.1, u18.2.2.2.2.2.2.1, u18.2.2.2.2.2.2.2.1, (u18.2.2.2.2.2.2.2.2.1.map dat0), (u18.2.2.2.2.2.2.2.2.2.map dat0))))
noncomputable abbrev F10_d18 (N : Nat) (x : Int × Nat × Int × Int × Int × (List (List AV)) × Int × RT12 × (List AV) × (List AV)) : Option ((Int × Nat × Int × (List (List AV)) × Int × RT12 × (List AV) × (List AV))) := (ZF N).L N x
noncomputable def ZU (N : Nat) : LSpec where
  X := Nat × Int × Int × (List (List AV)) × Int × (List AV)
  Y := (Nat × (List (List AV)) × Int × (List AV))
  p := fun s => rdS 86 1 [(5, .vs0 1000005 25), (0, .ptr 0 0), (1, .int .i64), (6, .int .i64)] [(0, .cells [.lst 1, .int .i64]), (1000005, .tt)] s fun ⟨a0, _, a1, a2, _⟩ ⟨⟨a3, a4, _⟩, a5, _⟩ => (a0, a1, a2, a3, a4, a5)
  st := fun u5 => mkS 86 [(5, (AV.vs 1000005 0 u5.1 25)), (0, (AV.ptr 0 0)), (1, (AV.v (.int .i64 u5.2.1))), (6, (AV.v (.int .i64 u5.2.2.1)))] [(0, [(AV.list 1 u5.2.2.2.1 none), (AV.v (.int .i64 u5.2.2.2.2.1))]), (1000005, u5.2.2.2.2.2)] (jM 5).1.toks 1
  out := fun y => (.exit 0, mkS 86 [(5, (AV.vs 1000005 0 y.1 25))] [(0, [(AV.list 1 y.2.1 none), (AV.v (.int .i64 y.2.2.1))]), (1000005, y.2.2.2)] (jM 5).2.toks 1)
  sp := fun y α k => k (.exit 0, mkS 86 [(5, (AV.vs 1000005 0 y.1 25))] [(0, [(AV.list 1 y.2.1 none), (AV.v (.int .i64 y.2.2.1))]), (1000005, y.2.2.2)] (jM 5).2.toks 1)
  spe := fun y α k => rfl
  b := fun u5 α kn ke => (match (decide (u5.2.2.1 < u5.2.1)) with | true => (match F9_d N (3, u5.2.2.2.1, u5.2.2.2.2.1) with | some y6 => (match (y6.1 == 0) with | true => (kn (u5.1, u5.2.1, (i64 (u5.2.2.1 + 1)), y6.2.1, y6.2.2, (u5.2.2.2.2.2.map dat0))) | false => (match zli N (1, y6.2) with | some y7 => (match F10_d18 N (u5.2.1, u5.1, u5.2.2.1, ((y7.1.2.2.2.2.2.2.2.2.2.1 : Nat) : Int), 0, y7.2.1, y7.2.2.1, y7.1, ((y7.2.2.2.map dat0).map dat0), (u5.2.2.2.2.2.map dat0)) with | some y8 => (match F9_d N (2, y8.2.2.2.1, y8.2.2.2.2.1) with | some y9 => (if 0 ≤ (if (i64 (((y8.2.2.2.2.2.1.2.2.2.2.2.2.2.2.2.1 : Nat) : Int) - 1)) < y9.1 then (i64 (((y8.2.2.2.2.2.1.2.2.2.2.2.2.2.2.2.1 : Nat) : Int) - 1)) else y9.1) ∧ (if (i64 (((y8.2.2.2.2.2.1.2.2.2.2.2.2.2.2.2.1 : Nat) : Int) - 1)) < y9.1 then (i64 (((y8.2.2.2.2.2.1.2.2.2.2.2.2.2.2.2.1 : Nat) : Int) - 1)) else y9.1) ≤ (y8.2.2.2.2.2.1.2.2.2.2.2.2.2.2.2.1 : Int) then (if 0 ≤ (0 : Int) ∧ (0 : Int) < (((y8.2.2.2.2.2.1.2.2.2.2.2.2.2.2.2.1 - (if (i64 (((y8.2.2.2.2.2.1.2.2.2.2.2.2.2.2.2.1 : Nat) : Int) - 1)) < y9.1 then (i64 (((y8.2.2.2.2.2.1.2.2.2.2.2.2.2.2.2.1 : Nat) : Int) - 1)) else y9.1).toNat) : Nat) : Int) then (match Rrd1 (y8.2.2.2.2.2.2.1.drop (((0 + (if (i64 (((y8.2.2.2.2.2.1.2.2.2.2.2.2.2.2.2.1 : Nat) : Int) - 1)) < y9.1 then (i64 (((y8.2.2.2.2.2.1.2.2.2.2.2.2.2.2.2.1 : Nat) : Int) - 1)) else y9.1).toNat) + (0 : Int).toNat) * 9)) with | some e10 => (if (y8.2.2.2.2.2.1.2.2.2.2.2.2.2.2.2.1 - (if (i64 (((y8.2.2.2.2.2.1.2.2.2.2.2.2.2.2.2.1 : Nat) : Int) - 1)) < y9.1 then (i64 (((y8.2.2.2.2.2.1.2.2.2.2.2.2.2.2.2.1 : Nat) : Int) - 1)) else y9.1).toNat) * 9 ≤ (zaB (0 + (if (i64 (((y8.2.2.2.2.2.1.2.2.2.2.2.2.2.2.2.1 : Nat) : Int) - 1)) < y9.1 then (i64 (((y8.2.2.2.2.2.1.2.2.2.2.2.2.2.2.2.1 : Nat) : Int) - 1)) else y9.1).toNat) 9 y8.2.2.2.2.2.2.1).length then (if y8.2.1 * 25 ≤ y8.2.2.2.2.2.2.2.length ∧ (y8.2.1 + [(Ren0 (e10.1, e10.2.1, e10.2.2.1, e10.2.2.2.1, e10.2.2.2.2.1, e10.2.2.2.2.2.1, e10.2.2.2.2.2.2.1, e10.2.2.2.2.2.2.2.1, e10.2.2.2.2.2.2.2.2.1, (zO ((zaB (0 + (if (i64 (((y8.2.2.2.2.2.1.2.2.2.2.2.2.2.2.2.1 : Nat) : Int) - 1)) < y9.1 then (i64 (((y8.2.2.2.2.2.1.2.2.2.2.2.2.2.2.2.1 : Nat) : Int) - 1)) else y9.1).toNat) 9 y8.2.2.2.2.2.2.1).take ((y8.2.2.2.2.2.1.2.2.2.2.2.2.2.2.2.1 - (if (i64 (((y8.2.2.2.2.2.1.2.2.2.2.2.2.2.2.2.1 : Nat) : Int) - 1)) < y9.1 then (i64 (((y8.2.2.2.2.2.1.2.2.2.2.2.2.2.2.2.1 : Nat) : Int) - 1)) else y9.1).toNat) * 9)) 9 (y8.2.2.2.2.2.1.2.2.2.2.2.2.2.2.2.1 - (if (i64 (((y8.2.2.2.2.2.1.2.2.2.2.2.2.2.2.2.1 : Nat) : Int) - 1)) < y9.1 then (i64 (((y8.2.2.2.2.2.1.2.2.2.2.2.2.2.2.2.1 : Nat) : Int) - 1)) else y9.1).toNat)), y8.2.2.2.2.2.1.2.2.2.2.2.2.2.2.2.2))].length) * 248 ≤ zl then (kn ((y8.2.1 + [(Ren0 (e10.1, e10.2.1, e10.2.2.1, e10.2.2.2.1, e10.2.2.2.2.1, e10.2.2.2.2.2.1, e10.2.2.2.2.2.2.1, e10.2.2.2.2.2.2.2.1, e10.2.2.2.2.2.2.2.2.1, (zO ((zaB (0 + (if (i64 (((y8.2.2.2.2.2.1.2.2.2.2.2.2.2.2.2.1 : Nat) : Int) - 1)) < y9.1 then (i64 (((y8.2.2.2.2.2.1.2.2.2.2.2.2.2.2.2.1 : Nat) : Int) - 1)) else y9.1).toNat) 9 y8.2.2.2.2.2.2.1).take ((y8.2.2.2.2.2.1.2.2.2.2.2.2.2.2.2.1 - (if (i64 (((y8.2.2.2.2.2.1.2.2.2.2.2.2.2.2.2.1 : Nat) : Int) - 1)) < y9.1 then (i64 (((y8.2.2.2.2.2.1.2.2.2.2.2.2.2.2.2.1 : Nat) : Int) - 1)) else y9.1).toNat) * 9)) 9 (y8.2.2.2.2.2.1.2.2.2.2.2.2.2.2.2.1 - (if (i64 (((y8.2.2.2.2.2.1.2.2.2.2.2.2.2.2.2.1 : Nat) : Int) - 1)) < y9.1 then (i64 (((y8.2.2.2.2.2.1.2.2.2.2.2.2.2.2.2.1 : Nat) : Int) - 1)) else y9.1).toNat)), y8.2.2.2.2.2.1.2.2.2.2.2.2.2.2.2.2))].length), y8.1, (i64 (y8.2.2.1 + 1)), y9.2.1, y9.2.2, ((y8.2.2.2.2.2.2.2.take (y8.2.1 * 25) ++ [(Ren0 (e10.1, e10.2.1, e10.2.2.1, e10.2.2.2.1, e10.2.2.2.2.1, e10.2.2.2.2.2.1, e10.2.2.2.2.2.2.1, e10.2.2.2.2.2.2.2.1, e10.2.2.2.2.2.2.2.2.1, (zO ((zaB (0 + (if (i64 (((y8.2.2.2.2.2.1.2.2.2.2.2.2.2.2.2.1 : Nat) : Int) - 1)) < y9.1 then (i64 (((y8.2.2.2.2.2.1.2.2.2.2.2.2.2.2.2.1 : Nat) : Int) - 1)) else y9.1).toNat) 9 y8.2.2.2.2.2.2.1).take ((y8.2.2.2.2.2.1.2.2.2.2.2.2.2.2.2.1 - (if (i64 (((y8.2.2.2.2.2.1.2.2.2.2.2.2.2.2.2.1 : Nat) : Int) - 1)) < y9.1 then (i64 (((y8.2.2.2.2.2.1.2.2.2.2.2.2.2.2.2.1 : Nat) : Int) - 1)) else y9.1).toNat) * 9)) 9 (y8.2.2.2.2.2.1.2.2.2.2.2.2.2.2.2.1 - (if (i64 (((y8.2.2.2.2.2.1.2.2.2.2.2.2.2.2.2.1 : Nat) : Int) - 1)) < y9.1 then (i64 (((y8.2.2.2.2.2.1.2.2.2.2.2.2.2.2.2.1 : Nat) : Int) - 1)) else y9.1).toNat)), y8.2.2.2.2.2.1.2.2.2.2.2.2.2.2.2.2))].flatten).map dat0))) else none) else none) | none => none) else none) else none) | none => none) | none => none) | none => none)) | none => none) | false => (ke (u5.1, u5.2.2.2.1, u5.2.2.2.2.1, (u5.2.2.2.2.2.map dat0))))
noncomputable abbrev F10_d5 (N : Nat) (x : Nat × Int × Int × (List (List AV)) × Int × (List AV)) : Option ((Nat × (List (List AV)) × Int × (List AV))) := (ZU N).L N x
noncomputable def zig (N : Nat) : FSpec where
  X := Int × (List (List AV)) × Int
  Y := (List (List AV)) × (List (List AV)) × Int
  ash := [[none], [none]]
  bsh := [[some 1, none]]
  S := ⟨[[some 2000025]], [[some 1, none]], [], [], []⟩
  bm := false
  pat := fun a b => rdA [.ptr 0 0, .int .i64] [.cells [.lst 1, .int .i64]] a b fun ⟨_, a0, _⟩ ⟨⟨a1, a2, _⟩, _⟩ => (a0, a1, a2)
  args := fun x => [(AV.ptr 0 0), (AV.v (.int .i64 x.1))]
  bs := fun x => [[(AV.list 1 x.2.1 none), (AV.v (.int .i64 x.2.2))]]
  ret := fun y => ⟨(AV.list 25 y.1 (some 2560000000)), [[(AV.list 1 y.2.1 none), (AV.v (.int .i64 y.2.2))]], none, [], [2560000000], []⟩
  t := fun x α k => (match F10_d5 N (0, x.1, 0, x.2.1, x.2.2, ([] : List AV)) with | some y11 => (if y11.1 * 25 ≤ y11.2.2.2.length then (k ((zO (y11.2.2.2.take (y11.1 * 25)) 25 y11.1), y11.2.1, y11.2.2.1)) else none) | none => none)
noncomputable abbrev F10_d (N : Nat) (x : Int × (List (List AV)) × Int) : Option ((List (List AV)) × (List (List AV)) × Int) := (zig N).d x
noncomputable def zbc (N : Nat) : List (Nat × LSpec) := [(5, ZU N), (18, ZF N)]
noncomputable def zem : Code := Try.f10.body.getD .skip
theorem zkv (N : Nat) : Par (ZF N).b := by
  intro x α β kn ke kn' ke' r r' h h1 h2
  revert h
  dsimp only [ZF]
  (repeat' (first | (with_reducible refine zg ?_ ?_) | (with_reducible refine zc ?_ ?_) | split)) <;> intro h <;> first | exact h1 _ h | exact h2 _ h | (cases h; done)
theorem zii (N : Nat) : BdOk (tabB Try.prog [19, 84]) (F10_g N) jM N (zbc N) 18 zem (ZF N) := fun x α kn ke => by kernel_rfl
theorem zdx (N : Nat) : LpOk Try.prog jM N (zbc N) 18 (zd 18 zem) :=
  zE (zL Try.prog [19, 84]) (zk _) zm jM N (zbc N) 18 zem (l := []) (by kernel_rfl) (by kernel_rfl) an (ZF N) rfl (fun s x hc h => by dsimp only [ZF] at h; exact zH hc h (fun _ _ => rfl) rfl rfl) (fun _ => rfl) (zii N) (zkv N)
theorem F10_par5 (N : Nat) : Par (ZU N).b := by
  intro x α β kn ke kn' ke' r r' h h1 h2
  revert h
  dsimp only [ZU]
  (repeat' (first | (with_reducible refine zg ?_ ?_) | (with_reducible refine zc ?_ ?_) | split)) <;> intro h <;> first | exact h1 _ h | exact h2 _ h | (cases h; done)
theorem zjQ (N : Nat) : BdOk (tabB Try.prog [19, 84]) (F10_g N) jM N (zbc N) 5 zem (ZU N) := fun x α kn ke => by kernel_rfl
theorem zjw (N : Nat) : LpOk Try.prog jM N (zbc N) 5 (zd 5 zem) :=
  zE (zL Try.prog [19, 84]) (zk _) zm jM N (zbc N) 5 zem (l := [(18, zd 18 zem)]) (by kernel_rfl) (by kernel_rfl) (al (zdx N) an) (ZU N) rfl (fun s x hc h => by dsimp only [ZU] at h; exact zH hc h (fun _ _ => rfl) rfl rfl) (fun _ => rfl) (zjQ N) (F10_par5 N)
theorem F10_parF (N : Nat) : ParF (zig N).t := by
  intro x α β k k' r r' h h1
  revert h
  dsimp only [zig]
  (repeat' (first | (with_reducible refine zg ?_ ?_) | (with_reducible refine zc ?_ ?_) | split)) <;> intro h <;> first | exact h1 _ h | (cases h; done)
theorem F10_text (N : Nat) : TxOk (tabB Try.prog [19, 84]) (F10_g N) jM (lam N (zbc N)) Try.f10 (zig N) := fun x => by kernel_rfl
noncomputable def F10_e (N : Nat) : Ent Try.prog := zB (zL Try.prog [19, 84]) (zk _) zm 10 Try.f10 Try.func10 rfl jM (lam N (zbc N)) (zp (l := [(5, zd 5 zem), (18, zd 18 zem)]) (al (zjw N) (al (zdx N) an)) (by kernel_rfl)) (zig N) (fun _ => ⟨rfl, rfl⟩) (F10_text N) (fun _ _ _ h => zA h (fun _ _ => rfl) (fun _ _ => rfl)) (F10_parF N)
def zaT : Nat → Keep × Keep := anL [(6, ⟨[0, 2, 4, 10, 11, 12], [], [0, 4], [(9, 38)], [], [], [], [], false⟩, ⟨[10, 11], [], [0], [(9, 38)], [], [], [], [], false⟩)]
noncomputable def F16_g (N : Nat) : GamK := gam (P := Try.prog) [F9_e N, F10_e N, F37_e N]
noncomputable def jx (N : Nat) : LSpec where
  X := (List (List AV)) × Int × Int × Int × Int × (List (List AV)) × Int × (List (List AV)) × Int × Int
  Y := ((List (List AV)) × Int × Int × (List (List AV)) × Int)
  p := fun s => rdS 48 1 [(9, .lst 38), (0, .ptr 0 0), (2, .int .i64), (4, .ptr 4 0), (10, .int .i64), (11, .int .i64), (12, .int .i64)] [(0, .cells [.lst 1, .int .i64]), (4, .cells [.lst 4, .int .i64, .int .i64])] s fun ⟨a0, _, a1, _, a2, a3, a4, _⟩ ⟨⟨a5, a6, _⟩, ⟨a7, a8, a9, _⟩, _⟩ => (a0, a1, a2, a3, a4, a5, a6, a7, a8, a9)
  st := fun u6 => mkS 48 [(9, (AV.list 38 u6.1 none)), (0, (AV.ptr 0 0)), (2, (AV.v (.int .i64 u6.2.1))), (4, (AV.ptr 4 0)), (10, (AV.v (.int .i64 u6.2.2.1))), (11, (AV.v (.int .i64 u6.2.2.2.1))), (12, (AV.v (.int .i64 u6.2.2.2.2.1)))] [(0, [(AV.list 1 u6.2.2.2.2.2.1 none), (AV.v (.int .i64 u6.2.2.2.2.2.2.1))]), (4, [(AV.list 4 u6.2.2.2.2.2.2.2.1 none), (AV.v (.int .i64 u6.2.2.2.2.2.2.2.2.1)), (AV.v (.int .i64 u6.2.2.2.2.2.2.2.2.2))])] (zaT 6).1.toks 1
  out := fun y => (.exit 0, mkS 48 [(9, (AV.list 38 y.1 none)), (10, (AV.v (.int .i64 y.2.1))), (11, (AV.v (.int .i64 y.2.2.1)))] [(0, [(AV.list 1 y.2.2.2.1 none), (AV.v (.int .i64 y.2.2.2.2))])] (zaT 6).2.toks 1)
  sp := fun y α k => k (.exit 0, mkS 48 [(9, (AV.list 38 y.1 none)), (10, (AV.v (.int .i64 y.2.1))), (11, (AV.v (.int .i64 y.2.2.1)))] [(0, [(AV.list 1 y.2.2.2.1 none), (AV.v (.int .i64 y.2.2.2.2))])] (zaT 6).2.toks 1)
  spe := fun y α k => rfl
  b := fun u6 α kn ke => (match (decide (u6.2.2.2.2.1 < u6.2.1)) with | true => (match F9_d N (400, u6.2.2.2.2.2.1, u6.2.2.2.2.2.2.1) with | some y5 => (match F10_d N (4, y5.2) with | some y6 => (match F37_d N (u6.2.2.2.2.2.2.2.1, u6.2.2.2.2.2.2.2.2.1, u6.2.2.2.2.2.2.2.2.2, u6.1, u6.2.2.1, y6.1, (i64 (u6.2.2.2.1 + y5.1))) with | some y7 => (match (y7.2.2 == 0) with | true => (kn (y7.1, u6.2.1, (i64 (u6.2.2.1 + (y7.2.1.length : Int))), (i64 (u6.2.2.2.1 + y5.1)), (i64 (u6.2.2.2.2.1 + 1)), y6.2.1, y6.2.2, u6.2.2.2.2.2.2.2)) | false => (kn (u6.1, u6.2.1, u6.2.2.1, (i64 (u6.2.2.2.1 + y5.1)), (i64 (u6.2.2.2.2.1 + 1)), y6.2.1, y6.2.2, u6.2.2.2.2.2.2.2))) | none => none) | none => none) | none => none) | false => (ke (u6.1, u6.2.2.1, u6.2.2.2.1, u6.2.2.2.2.2.1, u6.2.2.2.2.2.2.1)))
noncomputable abbrev F16_d6 (N : Nat) (x : (List (List AV)) × Int × Int × Int × Int × (List (List AV)) × Int × (List (List AV)) × Int × Int) : Option (((List (List AV)) × Int × Int × (List (List AV)) × Int)) := (jx N).L N x
noncomputable def zcx (N : Nat) : FSpec where
  X := (List (List AV)) × Int × Int × Int × (List (List AV)) × Int
  Y := (List (List AV)) × Int × Int × (List (List AV)) × Int
  ash := [[none], [some 4, none, none], [none]]
  bsh := [[some 1, none]]
  S := ⟨[[some 38], [none], [none]], [[some 1, none]], [], [], []⟩
  bm := false
  pat := fun a b => zj a fun v1 c2 => pPtr 0 0 v1 <| zj c2 fun v3 c4 => Z4 v3 fun c5 => zj c5 fun c6 c7 => pLst 4 c6 fun a0 => zj c7 fun c8 c9 => pInt .i64 c8 fun a1 => zj c9 fun c10 c11 => pInt .i64 c10 fun a2 => pEnd c11 <| zj c4 fun v12 c13 => pInt .i64 v12 fun a3 => pEnd c13 <| zj b fun v14 c15 => zj v14 fun c16 c17 => pLst 1 c16 fun a4 => zj c17 fun c18 c19 => pInt .i64 c18 fun a5 => pEnd c19 <| pEnd c15 <| some (a0, a1, a2, a3, a4, a5)
  args := fun x => [(AV.ptr 0 0), (AV.agg [(AV.list 4 x.1 none), (AV.v (.int .i64 x.2.1)), (AV.v (.int .i64 x.2.2.1))]), (AV.v (.int .i64 x.2.2.2.1))]
  bs := fun x => [[(AV.list 1 x.2.2.2.2.1 none), (AV.v (.int .i64 x.2.2.2.2.2))]]
  ret := fun y => ⟨(AV.tup [(AV.list 38 y.1 none), (AV.v (.int .i64 y.2.1)), (AV.v (.int .i64 y.2.2.1))]), [[(AV.list 1 y.2.2.2.1 none), (AV.v (.int .i64 y.2.2.2.2))]], none, [], [], []⟩
  t := fun x α k => (match F9_d N (5, x.2.2.2.2) with | some y1 => (match F16_d6 N (([] : List (List AV)), x.2.2.2.1, y1.1, 1000, 0, y1.2.1, y1.2.2, x.1, x.2.1, x.2.2.1) with | some y8 => (k y8) | none => none) | none => none)
noncomputable abbrev F16_d (N : Nat) (x : (List (List AV)) × Int × Int × Int × (List (List AV)) × Int) : Option ((List (List AV)) × Int × Int × (List (List AV)) × Int) := (zcx N).d x
noncomputable def zeS (N : Nat) : List (Nat × LSpec) := [(6, jx N)]
noncomputable def F16_c : Code := Try.f16.body.getD .skip
theorem F16_par6 (N : Nat) : Par (jx N).b := by
  intro x α β kn ke kn' ke' r r' h h1 h2
  revert h
  dsimp only [jx]
  (repeat' (first | (with_reducible refine zg ?_ ?_) | (with_reducible refine zc ?_ ?_) | split)) <;> intro h <;> first | exact h1 _ h | exact h2 _ h | (cases h; done)
theorem zk5 (N : Nat) : BdOk (zt Try.prog) (F16_g N) zaT N (zeS N) 6 F16_c (jx N) := fun x α kn ke => by kernel_rfl
theorem zkx (N : Nat) : LpOk Try.prog zaT N (zeS N) 6 (zd 6 F16_c) :=
  zE (zf Try.prog) (zk _) zm zaT N (zeS N) 6 F16_c (l := []) (by kernel_rfl) (by kernel_rfl) an (jx N) rfl (fun s x hc h => by dsimp only [jx] at h; exact zH hc h (fun _ _ => rfl) rfl rfl) (fun _ => rfl) (zk5 N) (F16_par6 N)
theorem F16_parF (N : Nat) : ParF (zcx N).t := by
  intro x α β k k' r r' h h1
  revert h
  dsimp only [zcx]
  (repeat' (first | (with_reducible refine zg ?_ ?_) | (with_reducible refine zc ?_ ?_) | split)) <;> intro h <;> first | exact h1 _ h | (cases h; done)
theorem F16_text (N : Nat) : TxOk (zt Try.prog) (F16_g N) zaT (lam N (zeS N)) Try.f16 (zcx N) := fun x => by kernel_rfl
theorem F16_pat (N : Nat) (a : List AV) (b : List (List AV)) (x : (zcx N).X) (h : (zcx N).pat a b = some x) : a = (zcx N).args x ∧ b = (zcx N).bs x := by
  obtain ⟨v1, c2, rfl, g0⟩ := zb (show zj _ _ = some x from h)
  obtain ⟨rfl, g1⟩ := zo g0; clear g0
  obtain ⟨v3, c4, rfl, g2⟩ := zb g1; clear g1
  obtain ⟨c5, rfl, g3⟩ := zJ g2; clear g2
  obtain ⟨c6, c7, rfl, g4⟩ := zb g3; clear g3
  obtain ⟨a0, rfl, g5⟩ := zy g4; clear g4
  obtain ⟨c8, c9, rfl, g6⟩ := zb g5; clear g5
  obtain ⟨a1, rfl, g7⟩ := zi g6; clear g6
  obtain ⟨c10, c11, rfl, g8⟩ := zb g7; clear g7
  obtain ⟨a2, rfl, g9⟩ := zi g8; clear g8
  obtain ⟨rfl, g10⟩ := ze g9; clear g9
  obtain ⟨v12, c13, rfl, g11⟩ := zb g10; clear g10
  obtain ⟨a3, rfl, g12⟩ := zi g11; clear g11
  obtain ⟨rfl, g13⟩ := ze g12; clear g12
  obtain ⟨v14, c15, rfl, g14⟩ := zb g13; clear g13
  obtain ⟨c16, c17, rfl, g15⟩ := zb g14; clear g14
  obtain ⟨a4, rfl, g16⟩ := zy g15; clear g15
  obtain ⟨c18, c19, rfl, g17⟩ := zb g16; clear g16
  obtain ⟨a5, rfl, g18⟩ := zi g17; clear g17
  obtain ⟨rfl, g19⟩ := ze g18; clear g18
  obtain ⟨rfl, g20⟩ := ze g19; clear g19
  clear h
  cases g20
  exact ⟨rfl, rfl⟩
noncomputable def F16_e (N : Nat) : Ent Try.prog := zB (zf Try.prog) (zk _) zm 16 Try.f16 Try.func16 rfl zaT (lam N (zeS N)) (zp (l := [(6, zd 6 F16_c)]) (al (zkx N) an) (by kernel_rfl)) (zcx N) (fun _ => ⟨rfl, rfl⟩) (F16_text N) (F16_pat N) (F16_parF N)
abbrev RK13 : List Ck := [.sl 9, .int .i64, .int .i64, .int .i64, .int .i64, .int .i64, .int .i64, .int .i64, .int .i64, .int .i64, .int .i64, .int .i64, .int .i64, .int .i64, .int .i64, .int .i64]
abbrev RT13 : Type := (List (List AV)) × Int × Int × Int × Int × Int × Int × Int × Int × Int × Int × Int × Int × Int × Int × Int × Unit
def Ren13 (e : RT13) : List AV := enc RK13 e
def F41_an : Nat → Keep × Keep := anL []
noncomputable def F41_g (N : Nat) : GamK := gam (P := Try.prog) [F64_e N]
noncomputable def zi5 (N : Nat) : FSpec where
  X := RT13 × RT13
  Y := Bool
  ash := [[some 9, none, none, none, none, none, none, none, none, none, none, none, none, none, none, none], [some 9, none, none, none, none, none, none, none, none, none, none, none, none, none, none, none]]
  bsh := []
  S := ⟨[[none]], [], [], [], []⟩
  bm := false
  pat := fun a b => rdA [.agg RK13, .agg RK13] [] a b fun ⟨a0, a1, _⟩ _ => (a0, a1)
  args := fun x => [(AV.agg (Ren13 x.1)), (AV.agg (Ren13 x.2))]
  bs := fun x => []
  ret := fun y => ⟨(AV.v (.bool y)), [], none, [], [], []⟩
  t := fun x α k => (match zkM N (x.1.1, x.2.1) with | some y1 => (match y1 with | true => (match (((x.1.2.1 == x.2.2.1) && ((x.1.2.2.1 == x.2.2.2.1) && ((x.1.2.2.2.1 == x.2.2.2.2.1) && true))) && ((x.1.2.2.2.2.1 == x.2.2.2.2.2.1) && ((x.1.2.2.2.2.2.1 == x.2.2.2.2.2.2.1) && ((x.1.2.2.2.2.2.2.1 == x.2.2.2.2.2.2.2.1) && ((((x.1.2.2.2.2.2.2.2.1 == x.2.2.2.2.2.2.2.2.1) && ((x.1.2.2.2.2.2.2.2.2.1 == x.2.2.2.2.2.2.2.2.2.1) && ((x.1.2.2.2.2.2.2.2.2.2.1 == x.2.2.2.2.2.2.2.2.2.2.1) && true))) && (((x.1.2.2.2.2.2.2.2.2.2.2.1 == x.2.2.2.2.2.2.2.2.2.2.2.1) && ((x.1.2.2.2.2.2.2.2.2.2.2.2.1 == x.2.2.2.2.2.2.2.2.2.2.2.2.1) && ((x.1.2.2.2.2.2.2.2.2.2.2.2.2.1 == x.2.2.2.2.2.2.2.2.2.2.2.2.2.1) && true))) && true)) && true))))) with | true => (match ((x.1.2.2.2.2.2.2.2.2.2.2.2.2.2.1 == x.2.2.2.2.2.2.2.2.2.2.2.2.2.2.1) && ((x.1.2.2.2.2.2.2.2.2.2.2.2.2.2.2.1 == x.2.2.2.2.2.2.2.2.2.2.2.2.2.2.2.1) && true)) with | true => (k (x.1.2.2.2.2.2.2.2.2.2.2.2.2.2.2.2.1 == x.2.2.2.2.2.2.2.2.2.2.2.2.2.2.2.2.1)) | false => (k false)) | false => (k false)) | false => (k false)) | none => none)
noncomputable abbrev F41_d (N : Nat) (x : RT13 × RT13) : Option (Bool) := (zi5 N).d x
theorem F41_parF (N : Nat) : ParF (zi5 N).t := by
  intro x α β k k' r r' h h1
  revert h
  dsimp only [zi5]
  (repeat' (first | (with_reducible refine zg ?_ ?_) | (with_reducible refine zc ?_ ?_) | split)) <;> intro h <;> first | exact h1 _ h | (cases h; done)
theorem F41_text (N : Nat) : TxOk (zt Try.prog) (F41_g N) F41_an (lam N []) Try.f41 (zi5 N) := fun x => by kernel_rfl
noncomputable def F41_e (N : Nat) : Ent Try.prog := zB (zf Try.prog) (zk _) zm 41 Try.f41 Try.func41 rfl F41_an (lam N []) (zp (l := []) an (by kernel_rfl)) (zi5 N) (fun _ => ⟨rfl, rfl⟩) (F41_text N) (fun _ _ _ h => zA h (fun _ _ => rfl) (fun _ _ => rfl)) (F41_parF N)
@[reducible] def zgJ (e : RT0) : RT13 := (e.2.2.2.2.2.2.2.2.2.1, e.2.2.2.2.2.2.2.2.2.2.1, e.2.2.2.2.2.2.2.2.2.2.2.1, e.2.2.2.2.2.2.2.2.2.2.2.2.1, e.2.2.2.2.2.2.2.2.2.2.2.2.2.1, e.2.2.2.2.2.2.2.2.2.2.2.2.2.2.1, e.2.2.2.2.2.2.2.2.2.2.2.2.2.2.2.1, e.2.2.2.2.2.2.2.2.2.2.2.2.2.2.2.2.1, e.2.2.2.2.2.2.2.2.2.2.2.2.2.2.2.2.2.1, e.2.2.2.2.2.2.2.2.2.2.2.2.2.2.2.2.2.2.1, e.2.2.2.2.2.2.2.2.2.2.2.2.2.2.2.2.2.2.2.1, e.2.2.2.2.2.2.2.2.2.2.2.2.2.2.2.2.2.2.2.2.1, e.2.2.2.2.2.2.2.2.2.2.2.2.2.2.2.2.2.2.2.2.2.1, e.2.2.2.2.2.2.2.2.2.2.2.2.2.2.2.2.2.2.2.2.2.2.1, e.2.2.2.2.2.2.2.2.2.2.2.2.2.2.2.2.2.2.2.2.2.2.2.1, e.2.2.2.2.2.2.2.2.2.2.2.2.2.2.2.2.2.2.2.2.2.2.2.2.1, ())
def F22_an : Nat → Keep × Keep := anL []
noncomputable def F22_g (N : Nat) : GamK := gam (P := Try.prog) [F41_e N]
noncomputable def zhK (N : Nat) : FSpec where
  X := RT0 × RT0
  Y := Bool
  ash := [[none, none, none, none, none, none, none, none, none, some 9, none, none, none, none, none, none, none, none, none, none, none, none, none, none, none], [none, none, none, none, none, none, none, none, none, some 9, none, none, none, none, none, none, none, none, none, none, none, none, none, none, none]]
  bsh := []
  S := ⟨[[none]], [], [], [], []⟩
  bm := false
  pat := fun a b => rdA [.agg RK0, .agg RK0] [] a b fun ⟨a0, a1, _⟩ _ => (a0, a1)
  args := fun x => [(AV.agg (Ren0 x.1)), (AV.agg (Ren0 x.2))]
  bs := fun x => []
  ret := fun y => ⟨(AV.v (.bool y)), [], none, [], [], []⟩
  t := fun x α k => (match (((x.1.1 == x.2.1) && ((x.1.2.1 == x.2.2.1) && ((x.1.2.2.1 == x.2.2.2.1) && ((x.1.2.2.2.1 == x.2.2.2.2.1) && true)))) && ((x.1.2.2.2.2.1 == x.2.2.2.2.2.1) && ((x.1.2.2.2.2.2.1 == x.2.2.2.2.2.2.1) && ((x.1.2.2.2.2.2.2.1 == x.2.2.2.2.2.2.2.1) && ((x.1.2.2.2.2.2.2.2.1 == x.2.2.2.2.2.2.2.2.1) && ((x.1.2.2.2.2.2.2.2.2.1 == x.2.2.2.2.2.2.2.2.2.1) && true)))))) with | true => (match F41_d N ((zgJ x.1), (zgJ x.2)) with | some y1 => (k y1) | none => none) | false => (k false))
noncomputable abbrev F22_d (N : Nat) (x : RT0 × RT0) : Option (Bool) := (zhK N).d x
theorem F22_parF (N : Nat) : ParF (zhK N).t := by
  intro x α β k k' r r' h h1
  revert h
  dsimp only [zhK]
  (repeat' (first | (with_reducible refine zg ?_ ?_) | (with_reducible refine zc ?_ ?_) | split)) <;> intro h <;> first | exact h1 _ h | (cases h; done)
theorem F22_text (N : Nat) : TxOk (zt Try.prog) (F22_g N) F22_an (lam N []) Try.f22 (zhK N) := fun x => by kernel_rfl
noncomputable def F22_e (N : Nat) : Ent Try.prog := zB (zf Try.prog) (zk _) zm 22 Try.f22 Try.func22 rfl F22_an (lam N []) (zp (l := []) an (by kernel_rfl)) (zhK N) (fun _ => ⟨rfl, rfl⟩) (F22_text N) (fun _ _ _ h => zA h (fun _ _ => rfl) (fun _ _ => rfl)) (F22_parF N)
def F36_an : Nat → Keep × Keep := anL []
noncomputable def F36_g (N : Nat) : GamK := gam (P := Try.prog) []
noncomputable def zjx (N : Nat) : FSpec where
  X := Unit
  Y := (List (List AV)) × Int × Int
  ash := []
  bsh := []
  S := ⟨[[some 4, none, none]], [], [], [], []⟩
  bm := false
  pat := fun a b => rdA [] [] a b fun _ _ => ()
  args := fun x => []
  bs := fun x => []
  ret := fun y => ⟨(AV.agg [(AV.list 4 y.1 none), (AV.v (.int .i64 y.2.1)), (AV.v (.int .i64 y.2.2))]), [], none, [], [], []⟩
  t := fun x α k => (k ([(Ren4 ((-1000), 1, 10000, 100000, ()))], 0, 0))
noncomputable abbrev F36_d (N : Nat) (x : Unit) : Option ((List (List AV)) × Int × Int) := (zjx N).d x
theorem F36_parF (N : Nat) : ParF (zjx N).t := by
  intro x α β k k' r r' h h1
  revert h
  dsimp only [zjx]
  (repeat' (first | (with_reducible refine zg ?_ ?_) | (with_reducible refine zc ?_ ?_) | split)) <;> intro h <;> first | exact h1 _ h | (cases h; done)
theorem F36_text (N : Nat) : TxOk (zt Try.prog) (F36_g N) F36_an (lam N []) Try.f36 (zjx N) := fun x => by kernel_rfl
noncomputable def F36_e (N : Nat) : Ent Try.prog := zB (zf Try.prog) (zk _) zm 36 Try.f36 Try.func36 rfl F36_an (lam N []) (zp (l := []) an (by kernel_rfl)) (zjx N) (fun _ => ⟨rfl, rfl⟩) (F36_text N) (fun _ _ _ h => zA h (fun _ _ => rfl) (fun _ _ => rfl)) (F36_parF N)
def F15_an : Nat → Keep × Keep := anL []
noncomputable def F15_g (N : Nat) : GamK := gam (P := Try.prog) [F35_e N, F36_e N, F11_e N]
noncomputable def zhA (N : Nat) : FSpec where
  X := Unit
  Y := Bool
  ash := []
  bsh := []
  S := ⟨[[none]], [], [], [], []⟩
  bm := false
  pat := fun a b => rdA [] [] a b fun _ _ => ()
  args := fun x => []
  bs := fun x => []
  ret := fun y => ⟨(AV.v (.bool y)), [], none, [], [], []⟩
  t := fun x α k => (match F35_d N 0 with | some y1 => (match F36_d N () with | some y2 => (match zeo N (y2.1, y2.2.1, y2.2.2, ([] : List (List AV)), 4, [(Ren0 (y1.1, y1.2.1, y1.2.2.1, y1.2.2.2.1, 1000, 0, 0, 0, 0, [(Ren1 (y1.1, y1.2.1, y1.2.2.1, y1.2.2.2.1, 1000, 0, 0, 0, 0, ()))], 0, 0, 0, 900, 0, 0, 0, 0, 0, 0, 0, 0, 0, 0, 1, ()))], 1200) with | some y3 => (match F36_d N () with | some y4 => (match zeo N (y4.1, y4.2.1, y4.2.2, y3.1, 5, ([] : List (List AV)), 1300) with | some y5 => (match (y3.2.2 == 0) with | true => (match ((y3.1.length : Int) == 1) with | true => (match ((y3.2.1.length : Int) == 1) with | true => (if 0 ≤ (0 : Int) then (match y3.2.1[(0 : Int).toNat]? with | some c6 => (match (c6.drop 1)[0]? with | some x7 => (match x7 with | .v (.int q9 n8) => (if q9 = .i64 then (match (n8 == 1) with | true => (if 0 ≤ (0 : Int) then (match y3.2.1[(0 : Int).toNat]? with | some c10 => (match (c10.drop 2)[0]? with | some x11 => (match x11 with | .v (.int q13 n12) => (if q13 = .i64 then (match (n12 == 4) with | true => (match (y5.2.2 == 0) with | true => (match ((y5.1.length : Int) == 1) with | true => (if 0 ≤ (0 : Int) then (match y5.1[(0 : Int).toNat]? with | some c14 => (match (c14.drop 1)[0]? with | some x15 => (match x15 with | .v (.bool b16) => (match b16 with | true => (match ((y5.2.1.length : Int) == 1) with | true => (if 0 ≤ (0 : Int) then (match y5.2.1[(0 : Int).toNat]? with | some c17 => (match (c17.drop 1)[0]? with | some x18 => (match x18 with | .v (.int q20 n19) => (if q20 = .i64 then (match (n19 == 3) with | true => (if 0 ≤ (0 : Int) then (match y5.2.1[(0 : Int).toNat]? with | some c21 => (match (c21.drop 0)[0]? with | some x22 => (match x22 with | .v (.int q24 n23) => (if q24 = .i64 then (match (n23 == 5) with | true => (if 0 ≤ (0 : Int) then (match y5.2.1[(0 : Int).toNat]? with | some c25 => (match (c25.drop 2)[0]? with | some x26 => (match x26 with | .v (.int q28 n27) => (if q28 = .i64 then (k (n27 == 4)) else none) | _ => none) | none => none) | none => none) else none) | false => (k false)) else none) | _ => none) | none => none) | none => none) else none) | false => (k false)) else none) | _ => none) | none => none) | none => none) else none) | false => (k false)) | false => (k false)) | _ => none) | none => none) | none => none) else none) | false => (k false)) | false => (k false)) | false => (k false)) else none) | _ => none) | none => none) | none => none) else none) | false => (k false)) else none) | _ => none) | none => none) | none => none) else none) | false => (k false)) | false => (k false)) | false => (k false)) | none => none) | none => none) | none => none) | none => none) | none => none)
noncomputable abbrev F15_d (N : Nat) (x : Unit) : Option (Bool) := (zhA N).d x
theorem F15_parF (N : Nat) : ParF (zhA N).t := by
  intro x α β k k' r r' h h1
  revert h
  dsimp only [zhA]
  (repeat' (first | (with_reducible refine zg ?_ ?_) | (with_reducible refine zc ?_ ?_) | split)) <;> intro h <;> first | exact h1 _ h | (cases h; done)
theorem F15_text (N : Nat) : TxOk (zt Try.prog) (F15_g N) F15_an (lam N []) Try.f15 (zhA N) := fun x => by kernel_rfl
noncomputable def F15_e (N : Nat) : Ent Try.prog := zB (zf Try.prog) (zk _) zm 15 Try.f15 Try.func15 rfl F15_an (lam N []) (zp (l := []) an (by kernel_rfl)) (zhA N) (fun _ => ⟨rfl, rfl⟩) (F15_text N) (fun _ _ _ h => zA h (fun _ _ => rfl) (fun _ _ => rfl)) (F15_parF N)
def zaR : Nat → Keep × Keep := anL [(5, ⟨[4], [(3, 38)], [], [(0, 38)], [], [], [], [], false⟩, ⟨[], [(3, 38)], [], [], [], [], [], [], false⟩)]
noncomputable def F21_g (N : Nat) : GamK := gam (P := Try.prog) []
noncomputable def ZQ (N : Nat) : LSpec where
  X := (List (List AV)) × (List (List AV)) × Int
  Y := ((List (List AV)))
  p := fun s => rdS 25 0 [(3, .tok 38 1280000192), (0, .lst 38), (4, .int .i64)] [] s fun ⟨a0, a1, a2, _⟩ _ => (a0, a1, a2)
  st := fun u5 => mkS 25 [(3, (AV.list 38 u5.1 (some 1280000192))), (0, (AV.list 38 u5.2.1 none)), (4, (AV.v (.int .i64 u5.2.2)))] [] (zaR 5).1.toks 0
  out := fun y => (.exit 0, mkS 25 [(3, (AV.list 38 y (some 1280000192)))] [] (zaR 5).2.toks 0)
  sp := fun y α k => k (.exit 0, mkS 25 [(3, (AV.list 38 y (some 1280000192)))] [] (zaR 5).2.toks 0)
  spe := fun y α k => rfl
  b := fun u5 α kn ke => (match (decide (u5.2.2 < (u5.2.1.length : Int))) with | true => (if 0 ≤ u5.2.2 then (match u5.2.1[u5.2.2.toNat]? with | some c1 => (match (c1.drop 1)[0]? with | some x2 => (match x2 with | .v (.bool b3) => (match (!b3) with | true => (if 0 ≤ u5.2.2 then (match u5.2.1[u5.2.2.toNat]? with | some c4 => (match Rrd3 c4 with | some e5 => (if (u5.1.length + [(Ren3 e5)].length) * 384 ≤ zl then (kn ((u5.1 ++ [(Ren3 e5)]), u5.2.1, (i64 (u5.2.2 + 1)))) else none) | none => none) | none => none) else none) | false => (kn (u5.1, u5.2.1, (i64 (u5.2.2 + 1))))) | _ => none) | none => none) | none => none) else none) | false => (ke u5.1))
noncomputable abbrev F21_d5 (N : Nat) (x : (List (List AV)) × (List (List AV)) × Int) : Option (((List (List AV)))) := (ZQ N).L N x
noncomputable def ziY (N : Nat) : FSpec where
  X := (List (List AV))
  Y := (List (List AV))
  ash := [[some 38]]
  bsh := []
  S := ⟨[[some 2000038]], [], [], [], []⟩
  bm := false
  pat := fun a b => rdA [.lst 38] [] a b fun ⟨a0, _⟩ _ => a0
  args := fun x => [(AV.list 38 x none)]
  bs := fun x => []
  ret := fun y => ⟨(AV.list 38 y (some 2560000000)), [], none, [], [2560000000], []⟩
  t := fun x α k => (match F21_d5 N (([] : List (List AV)), x, 0) with | some y6 => (k y6) | none => none)
noncomputable abbrev F21_d (N : Nat) (x : (List (List AV))) : Option ((List (List AV))) := (ziY N).d x
noncomputable def ze2 (N : Nat) : List (Nat × LSpec) := [(5, ZQ N)]
noncomputable def F21_c : Code := Try.f21.body.getD .skip
theorem F21_par5 (N : Nat) : Par (ZQ N).b := by
  intro x α β kn ke kn' ke' r r' h h1 h2
  revert h
  dsimp only [ZQ]
  (repeat' (first | (with_reducible refine zg ?_ ?_) | (with_reducible refine zc ?_ ?_) | split)) <;> intro h <;> first | exact h1 _ h | exact h2 _ h | (cases h; done)
theorem zmD (N : Nat) : BdOk (zt Try.prog) (F21_g N) zaR N (ze2 N) 5 F21_c (ZQ N) := fun x α kn ke => by kernel_rfl
theorem zmg (N : Nat) : LpOk Try.prog zaR N (ze2 N) 5 (zd 5 F21_c) :=
  zE (zf Try.prog) (zk _) zm zaR N (ze2 N) 5 F21_c (l := []) (by kernel_rfl) (by kernel_rfl) an (ZQ N) rfl (fun s x hc h => by dsimp only [ZQ] at h; exact zH hc h (fun _ _ => rfl) rfl rfl) (fun _ => rfl) (zmD N) (F21_par5 N)
theorem F21_parF (N : Nat) : ParF (ziY N).t := by
  intro x α β k k' r r' h h1
  revert h
  dsimp only [ziY]
  (repeat' (first | (with_reducible refine zg ?_ ?_) | (with_reducible refine zc ?_ ?_) | split)) <;> intro h <;> first | exact h1 _ h | (cases h; done)
theorem F21_text (N : Nat) : TxOk (zt Try.prog) (F21_g N) zaR (lam N (ze2 N)) Try.f21 (ziY N) := fun x => by kernel_rfl
noncomputable def F21_e (N : Nat) : Ent Try.prog := zB (zf Try.prog) (zk _) zm 21 Try.f21 Try.func21 rfl zaR (lam N (ze2 N)) (zp (l := [(5, zd 5 F21_c)]) (al (zmg N) an) (by kernel_rfl)) (ziY N) (fun _ => ⟨rfl, rfl⟩) (F21_text N) (fun _ _ _ h => zA h (fun _ _ => rfl) (fun _ _ => rfl)) (F21_parF N)
@[reducible] def zgQ (e : RT6) : RT0 := (e.2.2.2.2.2.1, e.2.2.2.2.2.2.1, e.2.2.2.2.2.2.2.1, e.2.2.2.2.2.2.2.2.1, e.2.2.2.2.2.2.2.2.2.1, e.2.2.2.2.2.2.2.2.2.2.1, e.2.2.2.2.2.2.2.2.2.2.2.1, e.2.2.2.2.2.2.2.2.2.2.2.2.1, e.2.2.2.2.2.2.2.2.2.2.2.2.2.1, e.2.2.2.2.2.2.2.2.2.2.2.2.2.2.1, e.2.2.2.2.2.2.2.2.2.2.2.2.2.2.2.1, e.2.2.2.2.2.2.2.2.2.2.2.2.2.2.2.2.1, e.2.2.2.2.2.2.2.2.2.2.2.2.2.2.2.2.2.1, e.2.2.2.2.2.2.2.2.2.2.2.2.2.2.2.2.2.2.1, e.2.2.2.2.2.2.2.2.2.2.2.2.2.2.2.2.2.2.2.1, e.2.2.2.2.2.2.2.2.2.2.2.2.2.2.2.2.2.2.2.2.1, e.2.2.2.2.2.2.2.2.2.2.2.2.2.2.2.2.2.2.2.2.2.1, e.2.2.2.2.2.2.2.2.2.2.2.2.2.2.2.2.2.2.2.2.2.2.1, e.2.2.2.2.2.2.2.2.2.2.2.2.2.2.2.2.2.2.2.2.2.2.2.1, e.2.2.2.2.2.2.2.2.2.2.2.2.2.2.2.2.2.2.2.2.2.2.2.2.1, e.2.2.2.2.2.2.2.2.2.2.2.2.2.2.2.2.2.2.2.2.2.2.2.2.2.1, e.2.2.2.2.2.2.2.2.2.2.2.2.2.2.2.2.2.2.2.2.2.2.2.2.2.2.1, e.2.2.2.2.2.2.2.2.2.2.2.2.2.2.2.2.2.2.2.2.2.2.2.2.2.2.2.1, e.2.2.2.2.2.2.2.2.2.2.2.2.2.2.2.2.2.2.2.2.2.2.2.2.2.2.2.2.1, e.2.2.2.2.2.2.2.2.2.2.2.2.2.2.2.2.2.2.2.2.2.2.2.2.2.2.2.2.2.1, ())
def zcC : Nat → Keep × Keep := anL [(12, ⟨[54, 55], [], [], [(9, 30), (53, 38)], [], [], [], [], false⟩, ⟨[2], [], [], [], [], [], [], [], false⟩)]
noncomputable def F6_g (N : Nat) : GamK := gam (P := Try.prog) [F7_e N, F8_e N, F9_e N, F16_e N, F11_e N, F20_e N, F21_e N, F22_e N, F15_e N]
noncomputable def jA (N : Nat) : LSpec where
  X := (List (List AV)) × (List (List AV)) × Int × Int
  Y := (Bool) ⊕ (Unit)
  p := fun s => rdS 91 0 [(9, .lst 30), (53, .lst 38), (54, .int .i64), (55, .int .i64)] [] s fun ⟨a0, a1, a2, a3, _⟩ _ => (a0, a1, a2, a3)
  st := fun u12 => mkS 91 [(9, (AV.list 30 u12.1 none)), (53, (AV.list 38 u12.2.1 none)), (54, (AV.v (.int .i64 u12.2.2.1))), (55, (AV.v (.int .i64 u12.2.2.2)))] [] (zcC 12).1.toks 0
  out := fun y => match y with
    | .inl y => (.ret, mkS 91 [(2, (AV.v (.bool y)))] [] (zcC 12).2.toks 0)
    | .inr y => (.exit 0, mkS 91 [] [] (zcC 12).2.toks 0)
  sp := fun y α k => match y with
    | .inl y => k (.ret, mkS 91 [(2, (AV.v (.bool y)))] [] (zcC 12).2.toks 0)
    | .inr y => k (.exit 0, mkS 91 [] [] (zcC 12).2.toks 0)
  spe := fun y α k => by rcases y with _ | _ <;> rfl
  b := fun u12 α kn ke => (match (decide (u12.2.2.2 < u12.2.2.1)) with | true => (if 0 ≤ u12.2.2.2 then (match u12.2.1[u12.2.2.2.toNat]? with | some c9 => (match Rrd3 c9 with | some e10 => (if 0 ≤ u12.2.2.2 then (match u12.1[u12.2.2.2.toNat]? with | some c11 => (match Rrd6 c11 with | some e12 => (match (e12.2.1 != 3) with | true => (ke (.inl false)) | false => (match (e12.2.2.1 != e10.1) with | true => (ke (.inl false)) | false => (match (e12.2.2.2.2.1 != e10.2.2.2.2.2.2.2.2.2.2.2.1) with | true => (ke (.inl false)) | false => (match F22_d N ((zgQ e12), (jU e10)) with | some y13 => (match (!y13) with | true => (ke (.inl false)) | false => (kn (u12.1, u12.2.1, u12.2.2.1, (i64 (u12.2.2.2 + 1))))) | none => none)))) | none => none) | none => none) else none) | none => none) | none => none) else none) | false => (ke (.inr ())))
noncomputable abbrev F6_d12 (N : Nat) (x : (List (List AV)) × (List (List AV)) × Int × Int) : Option ((Bool) ⊕ (Unit)) := (jA N).L N x
noncomputable def F6_s (N : Nat) : FSpec where
  X := (List (List AV))
  Y := Bool
  ash := [[some 1]]
  bsh := []
  S := ⟨[[none]], [], [], [], []⟩
  bm := false
  pat := fun a b => rdA [.lst 1] [] a b fun ⟨a0, _⟩ _ => a0
  args := fun x => [(AV.list 1 x none)]
  bs := fun x => []
  ret := fun y => ⟨(AV.v (.bool y)), [], none, [], [], []⟩
  t := fun x α k => (match F7_d N x with | some y1 => (match F8_d N y1 with | some y2 => (match F9_d N (5, y2.2.2.2) with | some y3 => (match F16_d N (y2.1, y2.2.1, y2.2.2.1, y3) with | some y4 => (match zeo N (y2.1, y2.2.1, y2.2.2.1, y4.1, y4.2.1, ([] : List (List AV)), y4.2.2.1) with | some y5 => (match (y5.2.2 != 0) with | true => (k false) | false => (match F20_d N y5.1 with | some y6 => (match (decide (((y6.1 : Nat) : Int) > 0)) with | true => (k false) | false => (match F21_d N y4.1 with | some y7 => (match ((y5.2.1.length : Int) != (y7.length : Int)) with | true => (k false) | false => (match F21_d N y4.1 with | some y8 => (match F6_d12 N (y5.2.1, y8, (y8.length : Int), 0) with | some y14 => (match y14 with | .inl z15 => (k z15) | .inr z16 => (match F15_d N () with | some y17 => (k y17) | none => none)) | none => none) | none => none)) | none => none)) | none => none)) | none => none) | none => none) | none => none) | none => none) | none => none)
noncomputable abbrev F6_d (N : Nat) (x : (List (List AV))) : Option (Bool) := (F6_s N).d x
noncomputable def zlW (N : Nat) : List (Nat × LSpec) := [(12, jA N)]
noncomputable def F6_c : Code := Try.f6.body.getD .skip
theorem F6_par12 (N : Nat) : Par (jA N).b := by
  intro x α β kn ke kn' ke' r r' h h1 h2
  revert h
  dsimp only [jA]
  (repeat' (first | (with_reducible refine zg ?_ ?_) | (with_reducible refine zc ?_ ?_) | split)) <;> intro h <;> first | exact h1 _ h | exact h2 _ h | (cases h; done)
theorem zmx (N : Nat) : BdOk (zt Try.prog) (F6_g N) zcC N (zlW N) 12 F6_c (jA N) := fun x α kn ke => by kernel_rfl
theorem zjv (N : Nat) : LpOk Try.prog zcC N (zlW N) 12 (zd 12 F6_c) :=
  zE (zf Try.prog) (zk _) zm zcC N (zlW N) 12 F6_c (l := []) (by kernel_rfl) (by kernel_rfl) an (jA N) rfl (fun s x hc h => by dsimp only [jA] at h; exact zH hc h (fun _ _ => rfl) rfl rfl) (fun _ => rfl) (zmx N) (F6_par12 N)
theorem F6_parF (N : Nat) : ParF (F6_s N).t := by
  intro x α β k k' r r' h h1
  revert h
  dsimp only [F6_s]
  (repeat' (first | (with_reducible refine zg ?_ ?_) | (with_reducible refine zc ?_ ?_) | split)) <;> intro h <;> first | exact h1 _ h | (cases h; done)
theorem F6_text (N : Nat) : TxOk (zt Try.prog) (F6_g N) zcC (lam N (zlW N)) Try.f6 (F6_s N) := fun x => by kernel_rfl
noncomputable def F6_e (N : Nat) : Ent Try.prog := zB (zf Try.prog) (zk _) zm 6 Try.f6 Try.func6 rfl zcC (lam N (zlW N)) (zp (l := [(12, zd 12 F6_c)]) (al (zjv N) an) (by kernel_rfl)) (F6_s N) (fun _ => ⟨rfl, rfl⟩) (F6_text N) (fun _ _ _ h => zA h (fun _ _ => rfl) (fun _ _ => rfl)) (F6_parF N)
end Go.Proofs.Ytnnfpoelkdgjdaa
end
section
namespace Go.Proofs.Ytnnfpoelkdgjdaa
set_option linter.unusedVariables false
set_option linter.unusedSimpArgs false
set_option linter.unnecessarySimpa false
def zC (xs : List Int) : List (List AV) := xs.map fun x => [I x]
theorem zN {x : Int} (h : -9223372036854775808 ≤ x ∧ x ≤ 9223372036854775807) : i64 x = x := IntWalk.i64_in _ (by omega)
theorem Jy (xs : List Int) : (zC xs).length = xs.length := by simp [zC]
theorem zbI (xs : List Int) (k : Nat) (h : k < xs.length) : (zC xs)[k]? = some [I xs[k]] := by simp [zC, h]
structure Sc (xs : List Int) (p : Int) : Prop where
  l : xs.length ≤ 2000
  p0 : 0 ≤ p
  p1 : p ≤ xs.length
theorem raw_ok (N : Nat) {xs : List Int} {p : Int} (D : Sc xs p) : ∃ v p', F25_d N (zC xs, p) = some (v, zC xs, p') ∧ Sc xs p' := by
  obtain ⟨l, p0, p1⟩ := D
  simp only [F25_d, FSpec.d, ziL]
  by_cases h : p ≥ ((zC xs).length : Int)
  · simp only [h, decide_true]
    exact ⟨0, p, rfl, ⟨l, p0, p1⟩⟩
  · have h0 := h
    rw [Jy] at h0
    have h2 : p.toNat < xs.length := by omega
    have hp : i64 (p + 1) = p + 1 := zN (by omega)
    have hq : i64 (p + 1 - 1) = p := by rw [zN (by omega)]; omega
    simp only [h, decide_false, hp, hq, p0, if_true, zbI xs _ h2, List.getElem?_cons_zero]
    exact ⟨_, _, rfl, ⟨l, by omega, by omega⟩⟩
theorem mod_ok (N : Nat) (v : Int) {n : Int} (hn : 1 ≤ n ∧ n ≤ 1000000) : ∃ r, F24_d N (v, n) = some r ∧ 0 ≤ r ∧ r < n := by
  simp only [F24_d, FSpec.d, ziX]
  have h1 : ¬ n < 1 := by omega
  have h3 : ¬ n = 0 := by omega
  simp only [h1, decide_false, h3, if_false]
  by_cases hneg : v.tmod n < 0
  · simp only [hneg, decide_true]
    have t1 : -n < v.tmod n := by
      have := Int.tmod_lt_of_pos (-v) (show 0 < n by omega)
      rw [Int.neg_tmod] at this
      omega
    rw [zN (by omega)]
    exact ⟨_, rfl, by omega, by omega⟩
  · simp only [hneg, decide_false]
    have t1 := Int.tmod_lt_of_pos v (show 0 < n by omega)
    exact ⟨_, rfl, by omega, by omega⟩
theorem n_ok (N : Nat) {n : Int} {xs : List Int} {p : Int} (hn : 1 ≤ n ∧ n ≤ 1000000) (D : Sc xs p) : ∃ v p', F9_d N (n, zC xs, p) = some (v, zC xs, p') ∧ (0 ≤ v ∧ v < n) ∧ Sc xs p' := by
  obtain ⟨v, p', h1, h2⟩ := raw_ok N D
  obtain ⟨r, h3, h4⟩ := mod_ok N v hn
  refine ⟨r, p', ?_, h4, h2⟩
  simp only [F9_d, FSpec.d, F9_s]
  simp only [h1, h3]
theorem zbZ (N : Nat) (O : List Int) {xs : List Int} {p : Int} (hO : 1 ≤ O.length ∧ O.length ≤ 1000) (D : Sc xs p) : ∃ v p', zbg N (zC O, zC xs, p) = some (v, zC xs, p') ∧ v ∈ O ∧ Sc xs p' := by
  simp only [zbg, FSpec.d, zjc]
  obtain ⟨v, p', h1, h2, h3⟩ := n_ok N (n := (O.length : Int)) (by omega) D
  rw [Jy, h1]
  have h4 : v.toNat < O.length := by omega
  simp only [h2.1, if_true, zbI O _ h4, List.getElem?_cons_zero]
  exact ⟨_, _, rfl, List.getElem_mem h4, h3⟩
theorem new_ok (N : Nat) (xs : List Int) : F7_d N (zC xs) = some (zC (xs.take 2000), 0) ∧ Sc (xs.take 2000) 0 := by
  refine ⟨?_, ⟨by simp; omega, by omega, by omega⟩⟩
  simp only [F7_d, FSpec.d, F7_s, Jy]
  by_cases h : 2000 < (xs.length : Int)
  · have h2 : (0 ≤ (2000 : Int) ∧ (2000 : Int) ≤ xs.length) := by omega
    simp only [h, if_true, h2, and_self]
    simp [zC]
  · have h2 : (0 ≤ (xs.length : Int) ∧ (xs.length : Int) ≤ xs.length) := by omega
    simp only [h, if_false, h2, and_self, if_true]
    rw [List.take_of_length_le (by rw [Jy]; omega), List.take_of_length_le (by omega)]
section
variable {T : Type} (en : T → List AV) (n : Nat) (hl : ∀ e, (en e).length = n)
def fl (L : List T) : List AV := (L.map en).flatten
include hl
theorem zae (L : List T) : (fl en L).length = L.length * n := by
  induction L with
  | nil => simp [fl]
  | cons a L ih =>
    show ((en a) ++ fl en L).length = _
    rw [List.length_append, ih, hl, List.length_cons, Nat.succ_mul, Nat.add_comm]
theorem zbP : ∀ (L : List T) (i j : Nat) (h : i < L.length), j ≤ n → (fl en L).drop (i * n + j) = (en L[i]).drop j ++ fl en (L.drop (i + 1))
  | a :: L, 0, j, h, hj => by
    show ((en a) ++ fl en L).drop (0 * n + j) = _
    rw [Nat.zero_mul, Nat.zero_add, List.drop_append_of_le_length (by rw [hl]; exact hj)]
    rfl
  | a :: L, i + 1, j, h, hj => by
    show ((en a) ++ fl en L).drop ((i + 1) * n + j) = _
    have e : (i + 1) * n + j = (en a).length + (i * n + j) := by rw [hl, Nat.succ_mul]; omega
    rw [e, List.drop_append, List.drop_eq_nil_of_le (by omega), Nat.add_sub_cancel_left, List.nil_append, zbP L i j (by simpa using h) hj]
    rfl
theorem zgH (L : List T) (i j : Nat) (h : i < L.length) (hj : j < n) : (fl en L)[i * n + j]? = (en L[i])[j]? := by
  have := congrArg (fun l : List AV => l[0]?) (zbP en n hl L i j h (Nat.le_of_lt hj))
  simp only [List.getElem?_drop, Nat.add_zero] at this
  rw [this, List.getElem?_append_left (by rw [List.length_drop, hl]; omega)]
  simp
omit hl in
theorem zjF (L : List T) (a : T) : fl en L ++ en a = fl en (L ++ [a]) := by
  unfold fl
  rw [List.map_append, List.flatten_append]
  simp
theorem zd3 (L : List T) (k : Nat) (hk : k = L.length) : (fl en L).take (k * n) = fl en L := by
  rw [List.take_of_length_le]
  rw [zae en n hl, hk]
  exact Nat.le_refl _
omit hl in
theorem zj8 (hd : ∀ e, (en e).map dat0 = en e) (L : List T) : (fl en L).map dat0 = fl en L := by
  induction L with
  | nil => rfl
  | cons a L ih =>
    show ((en a) ++ fl en L).map dat0 = (en a) ++ fl en L
    rw [List.map_append, ih, hd]
theorem zc4 (hd : ∀ e, (en e).map dat0 = en e) : ∀ L : List T, zO (fl en L) n L.length = L.map en
  | [] => rfl
  | a :: L => by
    show ((((en a) ++ fl en L).take n).map dat0) :: zO (((en a) ++ fl en L).drop n) n L.length = en a :: L.map en
    have e1 : ((en a) ++ fl en L).take n = en a := by rw [← hl a, List.take_left]
    have e2 : ((en a) ++ fl en L).drop n = fl en L := by rw [← hl a, List.drop_left]
    rw [e1, e2, hd, zc4 hd L]
theorem zb9 (hd : ∀ e, (en e).map dat0 = en e) (L : List T) (k : Nat) (hk : k = L.length) : zO ((fl en L).take (k * n)) n k = L.map en := by
  rw [zd3 en n hl L k hk, hk, zc4 en n hl hd L]
theorem zeN (L : List T) (i j : Nat) (h : i < L.length) (new : List AV) (b : T) (hb : splice (en L[i]) j new = en b) (hj : j + new.length ≤ n) : splice (fl en L) (i * n + j) new = fl en (L.set i b) := by
  have hlen : i * n + j + new.length ≤ (fl en L).length := by
    rw [zae en n hl]
    have : (i + 1) * n ≤ L.length * n := Nat.mul_le_mul_right n h
    rw [Nat.succ_mul] at this
    omega
  refine List.ext_getElem? fun k => ?_
  rw [jX new _ _ hlen]
  by_cases hn : n = 0
  · have e1 : ∀ L' : List T, fl en L' = [] := fun L' => List.eq_nil_of_length_eq_zero (by rw [zae en n hl, hn, Nat.mul_zero])
    rw [e1, e1]
    have : ¬ (i * n + j ≤ k ∧ k < i * n + j + new.length) := by omega
    rw [if_neg this]
  have hpos : 0 < n := Nat.pos_of_ne_zero hn
  by_cases hk : k < L.length * n
  · obtain ⟨q, r, hq, hr, rfl⟩ : ∃ q r, q < L.length ∧ r < n ∧ k = q * n + r := ⟨k / n, k % n, (Nat.div_lt_iff_lt_mul hpos).2 hk, Nat.mod_lt _ hpos, by rw [Nat.mul_comm]; exact (Nat.div_add_mod k n).symm⟩
    rw [zgH en n hl L q r hq hr, zgH en n hl (L.set i b) q r (by simpa using hq) hr, List.getElem_set]
    by_cases e : i = q
    · subst e
      simp only [if_true]
      rw [← hb, jX new _ _ (by rw [hl]; exact hj)]
      have c : (i * n + j ≤ i * n + r ∧ i * n + r < i * n + j + new.length) ↔ (j ≤ r ∧ r < j + new.length) := by omega
      by_cases c2 : j ≤ r ∧ r < j + new.length
      · rw [if_pos (c.2 c2), if_pos c2]
        congr 1
        omega
      · rw [if_neg (fun x => c2 (c.1 x)), if_neg c2]
    · rw [if_neg e, if_neg]
      rintro ⟨c1, c2⟩
      rcases Nat.lt_or_gt_of_ne e with h1 | h1
      · have : (i + 1) * n ≤ q * n := Nat.mul_le_mul_right n h1
        rw [Nat.succ_mul] at this
        omega
      · have : (q + 1) * n ≤ i * n := Nat.mul_le_mul_right n h1
        rw [Nat.succ_mul] at this
        omega
  · have e1 : (fl en L)[k]? = none := List.getElem?_eq_none (by rw [zae en n hl]; omega)
    have e2 : (fl en (L.set i b))[k]? = none := List.getElem?_eq_none (by rw [zae en n hl, List.length_set]; omega)
    have : ¬ (i * n + j ≤ k ∧ k < i * n + j + new.length) := by
      rw [zae en n hl] at hlen
      omega
    rw [if_neg this, e1, e2]
end
end Go.Proofs.Ytnnfpoelkdgjdaa
end
section
namespace Go.Proofs.Ytnnfpoelkdgjdaa
set_option linter.unusedVariables false
set_option linter.unusedSimpArgs false
set_option linter.unnecessarySimpa false
@[reducible] def nmE (e : RT0) : RT1 := (e.1, e.2.1, e.2.2.1, e.2.2.2.1, e.2.2.2.2.1, e.2.2.2.2.2.1, e.2.2.2.2.2.2.1, e.2.2.2.2.2.2.2.1, e.2.2.2.2.2.2.2.2.1, ())
@[reducible] def pkE (e : RT0) : List (List AV) := e.2.2.2.2.2.2.2.2.2.1
@[reducible] def solE (e : RT0) : RT13 := (e.2.2.2.2.2.2.2.2.2.1, e.2.2.2.2.2.2.2.2.2.2.1, e.2.2.2.2.2.2.2.2.2.2.2.1, e.2.2.2.2.2.2.2.2.2.2.2.2.1, e.2.2.2.2.2.2.2.2.2.2.2.2.2.1, e.2.2.2.2.2.2.2.2.2.2.2.2.2.2.1, e.2.2.2.2.2.2.2.2.2.2.2.2.2.2.2.1, e.2.2.2.2.2.2.2.2.2.2.2.2.2.2.2.2.1, e.2.2.2.2.2.2.2.2.2.2.2.2.2.2.2.2.2.1, e.2.2.2.2.2.2.2.2.2.2.2.2.2.2.2.2.2.2.1, e.2.2.2.2.2.2.2.2.2.2.2.2.2.2.2.2.2.2.2.1, e.2.2.2.2.2.2.2.2.2.2.2.2.2.2.2.2.2.2.2.2.1, e.2.2.2.2.2.2.2.2.2.2.2.2.2.2.2.2.2.2.2.2.2.1, e.2.2.2.2.2.2.2.2.2.2.2.2.2.2.2.2.2.2.2.2.2.2.1, e.2.2.2.2.2.2.2.2.2.2.2.2.2.2.2.2.2.2.2.2.2.2.2.1, e.2.2.2.2.2.2.2.2.2.2.2.2.2.2.2.2.2.2.2.2.2.2.2.2.1, ())
@[reducible] def loE (e : RT0) : Int := e.2.2.2.2.2.2.2.2.2.2.2.2.2.2.2.2.2.2.2.2.2.2.1
@[reducible] def hiE (e : RT0) : Int := e.2.2.2.2.2.2.2.2.2.2.2.2.2.2.2.2.2.2.2.2.2.2.2.1
@[reducible] def idA (a : RT3) : Int := a.1
@[reducible] def wdA (a : RT3) : Bool := a.2.1
@[reducible] def nmA (a : RT3) : RT1 := (a.2.2.1, a.2.2.2.1, a.2.2.2.2.1, a.2.2.2.2.2.1, a.2.2.2.2.2.2.1, a.2.2.2.2.2.2.2.1, a.2.2.2.2.2.2.2.2.1, a.2.2.2.2.2.2.2.2.2.1, a.2.2.2.2.2.2.2.2.2.2.1, ())
@[reducible] def lvA (a : RT3) : Int := a.2.2.2.2.2.2.2.2.2.2.2.1
@[reducible] def evA (a : RT3) : RT0 := (a.2.2.2.2.2.2.2.2.2.2.2.2.1, a.2.2.2.2.2.2.2.2.2.2.2.2.2.1, a.2.2.2.2.2.2.2.2.2.2.2.2.2.2.1, a.2.2.2.2.2.2.2.2.2.2.2.2.2.2.2.1, a.2.2.2.2.2.2.2.2.2.2.2.2.2.2.2.2.1, a.2.2.2.2.2.2.2.2.2.2.2.2.2.2.2.2.2.1, a.2.2.2.2.2.2.2.2.2.2.2.2.2.2.2.2.2.2.1, a.2.2.2.2.2.2.2.2.2.2.2.2.2.2.2.2.2.2.2.1, a.2.2.2.2.2.2.2.2.2.2.2.2.2.2.2.2.2.2.2.2.1, a.2.2.2.2.2.2.2.2.2.2.2.2.2.2.2.2.2.2.2.2.2.1, a.2.2.2.2.2.2.2.2.2.2.2.2.2.2.2.2.2.2.2.2.2.2.1, a.2.2.2.2.2.2.2.2.2.2.2.2.2.2.2.2.2.2.2.2.2.2.2.1, a.2.2.2.2.2.2.2.2.2.2.2.2.2.2.2.2.2.2.2.2.2.2.2.2.1, a.2.2.2.2.2.2.2.2.2.2.2.2.2.2.2.2.2.2.2.2.2.2.2.2.2.1, a.2.2.2.2.2.2.2.2.2.2.2.2.2.2.2.2.2.2.2.2.2.2.2.2.2.2.1, a.2.2.2.2.2.2.2.2.2.2.2.2.2.2.2.2.2.2.2.2.2.2.2.2.2.2.2.1, a.2.2.2.2.2.2.2.2.2.2.2.2.2.2.2.2.2.2.2.2.2.2.2.2.2.2.2.2.1, a.2.2.2.2.2.2.2.2.2.2.2.2.2.2.2.2.2.2.2.2.2.2.2.2.2.2.2.2.2.1, a.2.2.2.2.2.2.2.2.2.2.2.2.2.2.2.2.2.2.2.2.2.2.2.2.2.2.2.2.2.2.1, a.2.2.2.2.2.2.2.2.2.2.2.2.2.2.2.2.2.2.2.2.2.2.2.2.2.2.2.2.2.2.2.1, a.2.2.2.2.2.2.2.2.2.2.2.2.2.2.2.2.2.2.2.2.2.2.2.2.2.2.2.2.2.2.2.2.1, a.2.2.2.2.2.2.2.2.2.2.2.2.2.2.2.2.2.2.2.2.2.2.2.2.2.2.2.2.2.2.2.2.2.1, a.2.2.2.2.2.2.2.2.2.2.2.2.2.2.2.2.2.2.2.2.2.2.2.2.2.2.2.2.2.2.2.2.2.2.1, a.2.2.2.2.2.2.2.2.2.2.2.2.2.2.2.2.2.2.2.2.2.2.2.2.2.2.2.2.2.2.2.2.2.2.2.1, a.2.2.2.2.2.2.2.2.2.2.2.2.2.2.2.2.2.2.2.2.2.2.2.2.2.2.2.2.2.2.2.2.2.2.2.2.1, ())
@[reducible] def atA (a : RT3) : Int := a.2.2.2.2.2.2.2.2.2.2.2.2.2.2.2.2.2.2.2.2.2.2.2.2.2.2.2.2.2.2.2.2.2.2.2.2.2.1
def mkA (id : Int) (wd : Bool) (nm : RT1) (lv : Int) (ev : RT0) (at_ : Int) : RT3 := (id, wd, nm.1, nm.2.1, nm.2.2.1, nm.2.2.2.1, nm.2.2.2.2.1, nm.2.2.2.2.2.1, nm.2.2.2.2.2.2.1, nm.2.2.2.2.2.2.2.1, nm.2.2.2.2.2.2.2.2.1, lv, ev.1, ev.2.1, ev.2.2.1, ev.2.2.2.1, ev.2.2.2.2.1, ev.2.2.2.2.2.1, ev.2.2.2.2.2.2.1, ev.2.2.2.2.2.2.2.1, ev.2.2.2.2.2.2.2.2.1, ev.2.2.2.2.2.2.2.2.2.1, ev.2.2.2.2.2.2.2.2.2.2.1, ev.2.2.2.2.2.2.2.2.2.2.2.1, ev.2.2.2.2.2.2.2.2.2.2.2.2.1, ev.2.2.2.2.2.2.2.2.2.2.2.2.2.1, ev.2.2.2.2.2.2.2.2.2.2.2.2.2.2.1, ev.2.2.2.2.2.2.2.2.2.2.2.2.2.2.2.1, ev.2.2.2.2.2.2.2.2.2.2.2.2.2.2.2.2.1, ev.2.2.2.2.2.2.2.2.2.2.2.2.2.2.2.2.2.1, ev.2.2.2.2.2.2.2.2.2.2.2.2.2.2.2.2.2.2.1, ev.2.2.2.2.2.2.2.2.2.2.2.2.2.2.2.2.2.2.2.1, ev.2.2.2.2.2.2.2.2.2.2.2.2.2.2.2.2.2.2.2.2.1, ev.2.2.2.2.2.2.2.2.2.2.2.2.2.2.2.2.2.2.2.2.2.1, ev.2.2.2.2.2.2.2.2.2.2.2.2.2.2.2.2.2.2.2.2.2.2.1, ev.2.2.2.2.2.2.2.2.2.2.2.2.2.2.2.2.2.2.2.2.2.2.2.1, ev.2.2.2.2.2.2.2.2.2.2.2.2.2.2.2.2.2.2.2.2.2.2.2.2.1, at_, ())
def mkB (nu ki id at_ lv : Int) (ev : RT0) : RT6 := (nu, ki, id, at_, lv, ev.1, ev.2.1, ev.2.2.1, ev.2.2.2.1, ev.2.2.2.2.1, ev.2.2.2.2.2.1, ev.2.2.2.2.2.2.1, ev.2.2.2.2.2.2.2.1, ev.2.2.2.2.2.2.2.2.1, ev.2.2.2.2.2.2.2.2.2.1, ev.2.2.2.2.2.2.2.2.2.2.1, ev.2.2.2.2.2.2.2.2.2.2.2.1, ev.2.2.2.2.2.2.2.2.2.2.2.2.1, ev.2.2.2.2.2.2.2.2.2.2.2.2.2.1, ev.2.2.2.2.2.2.2.2.2.2.2.2.2.2.1, ev.2.2.2.2.2.2.2.2.2.2.2.2.2.2.2.1, ev.2.2.2.2.2.2.2.2.2.2.2.2.2.2.2.2.1, ev.2.2.2.2.2.2.2.2.2.2.2.2.2.2.2.2.2.1, ev.2.2.2.2.2.2.2.2.2.2.2.2.2.2.2.2.2.2.1, ev.2.2.2.2.2.2.2.2.2.2.2.2.2.2.2.2.2.2.2.1, ev.2.2.2.2.2.2.2.2.2.2.2.2.2.2.2.2.2.2.2.2.1, ev.2.2.2.2.2.2.2.2.2.2.2.2.2.2.2.2.2.2.2.2.2.1, ev.2.2.2.2.2.2.2.2.2.2.2.2.2.2.2.2.2.2.2.2.2.2.1, ev.2.2.2.2.2.2.2.2.2.2.2.2.2.2.2.2.2.2.2.2.2.2.2.1, ev.2.2.2.2.2.2.2.2.2.2.2.2.2.2.2.2.2.2.2.2.2.2.2.2.1, ())
theorem idA_mk (i : Int) (w : Bool) (n : RT1) (l : Int) (e : RT0) (t : Int) : idA (mkA i w n l e t) = i := rfl
theorem zjH (i : Int) (w : Bool) (n : RT1) (l : Int) (e : RT0) (t : Int) : nmA (mkA i w n l e t) = n := rfl
theorem evA_mk (i : Int) (w : Bool) (n : RT1) (l : Int) (e : RT0) (t : Int) : evA (mkA i w n l e t) = e := rfl
def z10 (c : Nat) : RT10 := ((⟨#[]⟩ : ByteArray), (⟨#[]⟩ : ByteArray), (⟨#[]⟩ : ByteArray), (⟨#[]⟩ : ByteArray), 0, 0, 0, 0, 0, c, 0, 0, 0, 0, 0, 0, 0, 0, 0, 0, 0, 0, 0, 0, 0, ())
def z8 : RT8 := ((⟨#[]⟩ : ByteArray), (⟨#[]⟩ : ByteArray), (⟨#[]⟩ : ByteArray), (⟨#[]⟩ : ByteArray), 0, 0, 0, 0, 0, ([] : List (List AV)), 0, 0, 0, 0, 0, 0, 0, 0, 0, 0, 0, 0, 0, 0, 0, ())
def AB : ByteArray := ⟨#[65, 66]⟩
def LC : ByteArray := ⟨#[48, 48]⟩
def CH : ByteArray := ⟨#[66, 72, 90]⟩
def st : Nat → ByteArray
  | 0 => ⟨#[83, 49]⟩
  | 1 => ⟨#[83, 50]⟩
  | 2 => ⟨#[83, 51]⟩
  | _ => ⟨#[83, 52]⟩
theorem src_ok (k : Nat) (h : k < 4) : F35_d 600 (k : Int) = some (AB, st k, LC, CH, ()) := by
  rcases (show k = 0 ∨ k = 1 ∨ k = 2 ∨ k = 3 by omega) with rfl | rfl | rfl | rfl <;> kernel_rfl
theorem place_ok {xs : List Int} {p : Int} (D : Sc xs p) : ∃ x y z p', F42_d 600 (20, zC xs, p) = some (x, y, z, zC xs, p') ∧ Sc xs p' := by
  obtain ⟨v1, p1, h1, m1, D1⟩ := n_ok 600 (n := 41) (by omega) D
  obtain ⟨v2, p2, h2, m2, D2⟩ := n_ok 600 (n := 41) (by omega) D1
  obtain ⟨v3, p3, h3, m3, D3⟩ := n_ok 600 (n := 21) (by omega) D2
  simp only [F42_d, FSpec.d, zhI]
  have e1 : i64 (i64 (2 * 20) + 1) = 41 := by decide
  have e2 : i64 (20 + 1) = 21 := by decide
  simp only [e1, e2, h1, h2, h3]
  exact ⟨_, _, _, _, rfl, D3⟩
def zfF (k : Nat) (p : RT1) : Prop := p.1 = AB ∧ p.2.1 = st k ∧ p.2.2.1 = LC ∧ p.2.2.2.1 = CH ∧ p.2.2.2.2.2.2.2.2.1 = 0
theorem fl1 (L : List RT1) : (fl Ren1 L).map dat0 = fl Ren1 L := zj8 Ren1 (fun _ => rfl) L
theorem fl0 (L : List RT0) : (fl Ren0 L).map dat0 = fl Ren0 L := zj8 Ren0 (fun _ => rfl) L
theorem len1 (L : List RT1) : (fl Ren1 L).length = L.length * 9 := zae Ren1 9 JF L
theorem len0 (L : List RT0) : (fl Ren0 L).length = L.length * 25 := zae Ren0 25 zan L
theorem app1 (L : List RT1) (a : RT1) (k : Nat) (hk : k = L.length) : (fl Ren1 L).take (k * 9) ++ [Ren1 a].flatten = fl Ren1 (L ++ [a]) := by
  rw [zd3 Ren1 9 JF L k hk, ← zjF]; simp
theorem app0 (L : List RT0) (a : RT0) (k : Nat) (hk : k = L.length) : (fl Ren0 L).take (k * 25) ++ [Ren0 a].flatten = fl Ren0 (L ++ [a]) := by
  rw [zd3 Ren0 25 zan L k hk, ← zjF]; simp
theorem ev_loop (t : Int) {xs : List Int} (ht : 0 ≤ t ∧ t ≤ 100000) : ∀ (m k f : Nat) (p : Int) (L : List RT1), k + m = 4 → m < f → Sc xs p → L.length = k → (∀ i (h : i < L.length), zfF i L[i]) →
    ∃ (L' : List RT1) (p' : Int), (Zn 600).L f (1, t, (k : Int), zC xs, p, z8, z10 k, fl Ren1 L) = some (t, zC xs, p', z8, z10 L'.length, fl Ren1 L') ∧ (1 ≤ L'.length ∧ L'.length ≤ 4) ∧ (∀ i (h : i < L'.length), zfF i L'[i]) ∧ Sc xs p' := by
  intro m
  induction m with
  | zero =>
    intro k f p L hk hf D hl hL
    obtain ⟨f, rfl⟩ : ∃ f', f = f' + 1 := ⟨f - 1, by omega⟩
    obtain ⟨v, p1, h1, m1, D1⟩ := n_ok 600 (n := 4) (by omega) D
    refine ⟨L, p1, ?_, by omega, hL, D1⟩
    show (Zn 600).b _ _ ((Zn 600).L f) some = _
    simp only [Zn]
    have e1 : i64 (1 + v) = 1 + v := zN (by omega)
    have e2 : decide ((k : Int) < 1 + v) = false := by rw [decide_eq_false_iff_not]; omega
    simp only [h1, e1, e2, fl1, hl]
  | succ m ih =>
    intro k f p L hk hf D hl hL
    obtain ⟨f, rfl⟩ : ∃ f', f = f' + 1 := ⟨f - 1, by omega⟩
    obtain ⟨v, p1, h1, m1, D1⟩ := n_ok 600 (n := 4) (by omega) D
    have e1 : i64 (1 + v) = 1 + v := zN (by omega)
    by_cases hc : (k : Int) < 1 + v
    · obtain ⟨u, p2, h2, m2, D2⟩ := n_ok 600 (n := 3) (by omega) D1
      have hs := src_ok k (by omega)
      obtain ⟨q, hq⟩ : ∃ q : RT1, q = (AB, st k, LC, CH, t + 10, t + 10, t + 10 + u, 1, 0, ()) := ⟨_, rfl⟩
      have hfin : ∀ i (h : i < (L ++ [q]).length), zfF i (L ++ [q])[i] := fun i h => by
        rw [List.getElem_append]
        split
        · exact hL i _
        · simp at h
          obtain rfl : i = k := by omega
          simp [hl, hq, zfF]
      obtain ⟨L', p', r1, r2, r3, r4⟩ := ih (k + 1) f p2 (L ++ [q]) (by omega) (by omega) D2 (by simp [hl]) hfin
      refine ⟨L', p', ?_, r2, r3, r4⟩
      show (Zn 600).b _ _ ((Zn 600).L f) some = _
      obtain ⟨Lf, hLf⟩ : ∃ Lf, Lf = (Zn 600).L f := ⟨_, rfl⟩
      rw [← hLf] at r1 ⊢
      simp only [Zn]
      have e2 : decide ((k : Int) < 1 + v) = true := by rw [decide_eq_true_iff]; omega
      have e3 : i64 (10 * 1) = 10 := by decide
      have e4 : i64 (t + 10) = t + 10 := zN (by omega)
      have e5 : i64 (t + 10 + u) = t + 10 + u := zN (by omega)
      have e6 : i64 ((k : Int) + 1) = ((k + 1 : Nat) : Int) := by rw [zN (by omega)]; omega
      have hb : ((z10 k).2.2.2.2.2.2.2.2.2.1 * 9 ≤ (fl Ren1 L).length ∧ ((z10 k).2.2.2.2.2.2.2.2.2.1 + [Ren1 q].length) * 104 ≤ zl) := by
        rw [len1]; unfold zl z10; simp; omega
      simp only [h1, e1, e2, hs, h2, e3, e4, e5, e6, ← hq, hb, if_true, and_self]
      rw [app1 L q _ (show (z10 k).2.2.2.2.2.2.2.2.2.1 = _ from hl.symm), fl1]
      exact r1
    · refine ⟨L, p1, ?_, by omega, hL, D1⟩
      show (Zn 600).b _ _ ((Zn 600).L f) some = _
      simp only [Zn]
      have e2 : decide ((k : Int) < 1 + v) = false := by rw [decide_eq_false_iff_not]; omega
      simp only [h1, e1, e2, fl1, hl]
theorem ev_ok {xs : List Int} {p : Int} (D : Sc xs p) : ∃ (e : RT11) (L : List RT1) (p' : Int), zli 600 (1, zC xs, p) = some (e, zC xs, p', fl Ren1 L) ∧ e.2.2.2.2.2.2.2.2.2.1 = L.length ∧ (1 ≤ L.length ∧ L.length ≤ 4) ∧ (∀ i (h : i < L.length), zfF i L[i]) ∧ e.2.2.2.2.2.2.2.2.2.2.2.2.2.2.2.2.2.2.2.2.2.2.1 ≤ e.2.2.2.2.2.2.2.2.2.2.2.2.2.2.2.2.2.2.2.2.2.2.2.1 ∧ Sc xs p' := by
  obtain ⟨v, p1, h1, m1, D1⟩ := n_ok 600 (n := 300) (by omega) D
  have e1 : i64 (1000 + v) = 1000 + v := zN (by omega)
  obtain ⟨L, p2, h2, hl, hL, D2⟩ := ev_loop (1000 + v) (by omega) 4 0 600 p1 [] rfl (by omega) D1 rfl (fun i h => by cases h)
  obtain ⟨x, y, z, p3, h3, D3⟩ := place_ok D2
  obtain ⟨u4, p4, h4, m4, D4⟩ := n_ok 600 (n := 40) (by omega) D3
  obtain ⟨u5, p5, h5, m5, D5⟩ := zbZ 600 [0, 0, 5, 500] (by simp) D4
  replace h5 : zbg 600 ([[AV.v (.int .i64 0)], [AV.v (.int .i64 0)], [AV.v (.int .i64 5)], [AV.v (.int .i64 500)]], zC xs, p4) = some (u5, zC xs, p5) := h5
  obtain ⟨u6, p6, h6, m6, D6⟩ := n_ok 600 (n := 3) (by omega) D5
  replace h2 : (Zn 600).L 600 (1, 1000 + v, 0, zC xs, p1, z8, z10 0, []) = some (1000 + v, zC xs, p2, z8, z10 L.length, fl Ren1 L) := h2
  unfold z8 z10 at h2
  simp only [zli, FSpec.d, zdi]
  have hd : (fl Ren1 L).drop ((0 + Int.toNat 0) * 9) = Ren1 L[0] ++ fl Ren1 (L.drop 1) := zbP Ren1 9 JF L 0 0 (by omega) (by omega)
  have hz : (0 ≤ (0 : Int) ∧ (0 : Int) < (L.length : Int)) := by omega
  simp only [h1, e1, zjO, h2, hz, and_self, if_true, hd, zhb, h3, h4, h5, h6]
  by_cases hc : u6 > 0
  · obtain ⟨u7, p7, h7, m7, D7⟩ := n_ok 600 (n := 400) (by omega) D6
    obtain ⟨u8, p8, h8, m8, D8⟩ := n_ok 600 (n := 60) (by omega) D7
    simp only [hc, decide_true, h7, h8, fl1]
    have e9 : i64 (u7 + u8) = u7 + u8 := zN (by omega)
    simp only [e9]
    exact ⟨_, _, _, rfl, rfl, hl, hL, by dsimp only; omega, D8⟩
  · simp only [hc, decide_false, fl1]
    exact ⟨_, _, _, rfl, rfl, hl, hL, Int.le_refl 0, D6⟩
def pick (n i : Nat) : RT1 := (AB, st i, LC, CH, 1000 + 400 * n + i, 1000 + 400 * n + i, 1000 + 400 * n + i + 2, 7, 0, ())
def pks (n f c : Nat) : List RT1 := (List.range' f (c - f)).map (pick n)
theorem jR (n f c : Nat) : (pks n f c).length = c - f := by simp [pks]
theorem old_pick (n i : Nat) : zfF i (pick n i) := ⟨rfl, rfl, rfl, rfl, rfl⟩
theorem zd6 (L : List RT1) (k j : Nat) (hk : k < L.length) (hj : j < 9) (a : AV) (b : RT1) (hb : splice (Ren1 L[k]) j [a] = Ren1 b) : splice (fl Ren1 L) ((0 + ((k : Int)).toNat) * 9 + j) [a] = fl Ren1 (L.set k b) := by
  rw [Nat.zero_add, Int.toNat_natCast]
  exact zeN Ren1 9 JF L k j hk [a] b hb (by simp; omega)
theorem upd_loop (m : Int) (cnt n : Nat) (e : RT11) (ob : List AV) (hob : ob.map dat0 = ob) {xs : List Int} (hn : n ≤ 100) : ∀ (d k f : Nat) (p : Int) (L : List RT1), k + d = L.length → d < f → L.length ≤ 4 → e.2.2.2.2.2.2.2.2.2.1 = L.length → (∀ i (h : i < L.length), zfF i L[i]) → (∀ i (h : i < L.length), i < k → L[i] = pick n i) →
    (ZF 600).L f (m, cnt, (n : Int), (L.length : Int), (k : Int), zC xs, p, e, fl Ren1 L, ob) = some (m, cnt, (n : Int), zC xs, p, e, fl Ren1 (pks n 0 L.length), ob) := by
  intro d
  induction d with
  | zero =>
    intro k f p L hk hf hL he hO hP
    obtain ⟨f, rfl⟩ : ∃ f', f = f' + 1 := ⟨f - 1, by omega⟩
    show (ZF 600).b _ _ ((ZF 600).L f) some = _
    simp only [ZF]
    have e2 : decide ((k : Int) < L.length) = false := by rw [decide_eq_false_iff_not]; omega
    have e3 : L = pks n 0 L.length := by
      refine List.ext_getElem (by simp [pks]) fun i h1 h2 => ?_
      rw [hP i h1 (by omega)]
      simp [pks]
    simp only [e2, fl1, hob]
    rw [← e3]
  | succ d ih =>
    intro k f p L hk hf hL he hO hP
    obtain ⟨f, rfl⟩ : ∃ f', f = f' + 1 := ⟨f - 1, by omega⟩
    have hkl : k < L.length := by omega
    obtain ⟨o1, o2, o3, o4, o5⟩ := hO k hkl
    obtain ⟨q, hq⟩ : ∃ q, L[k] = q := ⟨_, rfl⟩
    rw [hq] at o1 o2 o3 o4 o5
    obtain ⟨q1, q2, q3, q4, q5, q6, q7, q8, q9, _⟩ := q
    subst o1 o2 o3 o4 o5
    have ih' := ih (k + 1) f p (L.set k (pick n k)) (by simp; omega) (by omega) (by simpa using hL) (by simpa using he) (fun i h => by
      rw [List.getElem_set]
      split
      · rename_i e; subst e; exact old_pick n _
      · exact hO i (by simpa using h)) (fun i h hi => by
      rw [List.getElem_set]
      split
      · rename_i e; subst e; rfl
      · exact hP i (by simpa using h) (by omega))
    rw [List.length_set] at ih'
    show (ZF 600).b _ _ ((ZF 600).L f) some = _
    obtain ⟨Lf, hLf⟩ : ∃ Lf, Lf = (ZF 600).L f := ⟨_, rfl⟩
    rw [← hLf] at ih' ⊢
    simp only [ZF]
    have e2 : decide ((k : Int) < L.length) = true := by rw [decide_eq_true_iff]; omega
    have e3 : i64 (400 * (n : Int)) = 400 * n := zN (by omega)
    have e4 : i64 (1000 + 400 * (n : Int)) = 1000 + 400 * n := zN (by omega)
    have e5 : i64 (1000 + 400 * (n : Int) + k) = 1000 + 400 * n + k := zN (by omega)
    have e6 : i64 (1000 + 400 * (n : Int) + k + 2) = 1000 + 400 * n + k + 2 := zN (by omega)
    have e7 : i64 ((k : Int) + 1) = ((k + 1 : Nat) : Int) := by rw [zN (by omega)]; omega
    have hz : (0 ≤ (k : Int) ∧ (k : Int) < (L.length : Int)) := by omega
    have s1 := zd6 L k 4 hkl (by omega) (AV.v (.int .i64 (1000 + 400 * n + k))) (AB, st k, LC, CH, 1000 + 400 * n + k, q6, q7, q8, 0, ()) (by rw [hq]; rfl)
    have s2 := zd6 (L.set k (AB, st k, LC, CH, 1000 + 400 * n + k, q6, q7, q8, 0, ())) k 5 (by simpa using hkl) (by omega) (AV.v (.int .i64 (1000 + 400 * n + k))) (AB, st k, LC, CH, 1000 + 400 * n + k, 1000 + 400 * n + k, q7, q8, 0, ()) (by rw [List.getElem_set_self]; rfl)
    have s3 := zd6 (L.set k (AB, st k, LC, CH, 1000 + 400 * n + k, 1000 + 400 * n + k, q7, q8, 0, ())) k 6 (by simpa using hkl) (by omega) (AV.v (.int .i64 (1000 + 400 * n + k + 2))) (AB, st k, LC, CH, 1000 + 400 * n + k, 1000 + 400 * n + k, 1000 + 400 * n + k + 2, q8, 0, ()) (by rw [List.getElem_set_self]; rfl)
    have s4 := zd6 (L.set k (AB, st k, LC, CH, 1000 + 400 * n + k, 1000 + 400 * n + k, 1000 + 400 * n + k + 2, q8, 0, ())) k 7 (by simpa using hkl) (by omega) (AV.v (.int .i64 7)) (pick n k) (by rw [List.getElem_set_self]; rfl)
    rw [List.set_set] at s2 s3 s4
    have g : ∀ (L' : List RT1) (j : Nat), L'.length = L.length → j < 9 → (0 + ((k : Int)).toNat) * 9 + j + 1 ≤ (fl Ren1 L').length := fun L' j h1 h2 => by
      rw [len1, h1, Nat.zero_add, Int.toNat_natCast]; omega
    simp only [e2, e3, e4, e5, e6, e7, he, hz, and_self, if_true, s1, s2, s3, s4, g L 4 rfl (by omega), g _ 5 (List.length_set) (by omega), g _ 6 (List.length_set) (by omega), g _ 7 (List.length_set) (by omega), fl1, hob]
    exact ih'
def EvAt (n : Nat) (e : RT0) : Prop := ∃ f c, f < c ∧ c ≤ 4 ∧ f ≤ 1 ∧ nmE e = pick n f ∧ pkE e = (pks n f c).map Ren1 ∧ loE e ≤ hiE e
def Evs (lo hi : Nat) : List RT0 → Prop
  | [] => lo ≤ hi
  | e :: r => ∃ n, lo ≤ n ∧ EvAt n e ∧ Evs (n + 1) hi r
theorem Evs.mono : ∀ {L : List RT0} {lo hi hi' : Nat}, Evs lo hi L → hi ≤ hi' → Evs lo hi' L
  | [], lo, hi, hi', h, hh => Nat.le_trans h hh
  | e :: r, lo, hi, hi', h, hh => by
    obtain ⟨n, h1, h2, h3⟩ := h
    exact ⟨n, h1, h2, h3.mono hh⟩
theorem Evs.snoc : ∀ {L : List RT0} {lo n : Nat} {e : RT0}, Evs lo n L → EvAt n e → Evs lo (n + 1) (L ++ [e])
  | [], lo, n, e, h, he => ⟨n, h, he, Nat.le_refl _⟩
  | a :: r, lo, n, e, h, he => by
    obtain ⟨m, h1, h2, h3⟩ := h
    exact ⟨m, h1, h2, h3.snoc he⟩
theorem zhn (n r c : Nat) (h : r ≤ c) : (fl Ren1 (pks n 0 c)).drop (r * 9) = fl Ren1 (pks n r c) := by
  have e : pks n 0 c = pks n 0 r ++ pks n r c := by
    unfold pks
    rw [← List.map_append, Nat.sub_zero, Nat.sub_zero]
    congr 1
    rw [show c = r + (c - r) by omega, ← List.range'_append_1]
    simp
  rw [e]
  unfold fl
  rw [List.map_append, List.flatten_append]
  have := len1 (pks n 0 r)
  unfold fl at this
  rw [jR, Nat.sub_zero] at this
  rw [← this, List.drop_left]
theorem evs_loop (m : Nat) {xs : List Int} (hm : m ≤ 20) : ∀ (d n f : Nat) (p : Int) (A : List RT0), n + d = m → d < f → Sc xs p → A.length ≤ n → Evs 0 n A →
    ∃ (A' : List RT0) (p' : Int), (ZU 600).L f (A.length, (m : Int), (n : Int), zC xs, p, fl Ren0 A) = some (A'.length, zC xs, p', fl Ren0 A') ∧ A'.length ≤ m ∧ Evs 0 m A' ∧ Sc xs p' := by
  intro d
  induction d with
  | zero =>
    intro n f p A hk hf D hA hE
    obtain ⟨f, rfl⟩ : ∃ f', f = f' + 1 := ⟨f - 1, by omega⟩
    refine ⟨A, p, ?_, by omega, by rw [← hk]; exact hE, D⟩
    show (ZU 600).b _ _ ((ZU 600).L f) some = _
    simp only [ZU]
    have e2 : decide ((n : Int) < (m : Int)) = false := by rw [decide_eq_false_iff_not]; omega
    simp only [e2, fl0]
  | succ d ih =>
    intro n f p A hk hf D hA hE
    obtain ⟨f, rfl⟩ : ∃ f', f = f' + 1 := ⟨f - 1, by omega⟩
    have e2 : decide ((n : Int) < (m : Int)) = true := by rw [decide_eq_true_iff]; omega
    have e7 : i64 ((n : Int) + 1) = ((n + 1 : Nat) : Int) := by rw [zN (by omega)]; omega
    obtain ⟨v, p1, h1, m1, D1⟩ := n_ok 600 (n := 3) (by omega) D
    by_cases hv : v = 0
    · obtain ⟨A', p', r1, r2, r3, r4⟩ := ih (n + 1) f p1 A (by omega) (by omega) D1 (by omega) (hE.mono (by omega))
      refine ⟨A', p', ?_, r2, r3, r4⟩
      show (ZU 600).b _ _ ((ZU 600).L f) some = _
      obtain ⟨Lf, hLf⟩ : ∃ Lf, Lf = (ZU 600).L f := ⟨_, rfl⟩
      rw [← hLf] at r1 ⊢
      simp only [ZU]
      have e3 : (v == 0) = true := by simp [hv]
      simp only [e2, h1, e3, e7, fl0]
      exact r1
    · have e3 : (v == 0) = false := by simp [hv]
      obtain ⟨e, L, p2, h2, hl, hl2, hL, hlo, D2⟩ := ev_ok D1
      have h3 := upd_loop (m : Int) A.length n e (fl Ren0 A) (fl0 A) (xs := xs) (by omega) L.length 0 600 p2 L (by omega) (by omega) (by omega) hl hL (fun i h hi => by omega)
      replace h3 : (ZF 600).L 600 ((m : Int), A.length, (n : Int), (L.length : Int), 0, zC xs, p2, e, fl Ren1 L, fl Ren0 A) = some ((m : Int), A.length, (n : Int), zC xs, p2, e, fl Ren1 (pks n 0 L.length), fl Ren0 A) := h3
      obtain ⟨w, p3, h4, m4, D3⟩ := n_ok 600 (n := 2) (by omega) D2
      have e4 : i64 (((L.length : Nat) : Int) - 1) = ((L.length - 1 : Nat) : Int) := by rw [zN (by omega)]; omega
      obtain ⟨r, hr⟩ : ∃ r : Nat, (if ((L.length - 1 : Nat) : Int) < w then ((L.length - 1 : Nat) : Int) else w) = (r : Int) ∧ r ≤ 1 ∧ r < L.length := by
        by_cases hc : ((L.length - 1 : Nat) : Int) < w
        · exact ⟨L.length - 1, by rw [if_pos hc], by omega, by omega⟩
        · exact ⟨w.toNat, by rw [if_neg hc]; omega, by omega, by omega⟩
      obtain ⟨hr, hr1, hr2⟩ := hr
      obtain ⟨q, hq⟩ : ∃ q : RT0, q = ((pick n r).1, (pick n r).2.1, (pick n r).2.2.1, (pick n r).2.2.2.1, (pick n r).2.2.2.2.1, (pick n r).2.2.2.2.2.1, (pick n r).2.2.2.2.2.2.1, (pick n r).2.2.2.2.2.2.2.1, (pick n r).2.2.2.2.2.2.2.2.1, (pks n r L.length).map Ren1, e.2.2.2.2.2.2.2.2.2.2) := ⟨_, rfl⟩
      have hqe : EvAt n q := ⟨r, L.length, hr2, hl2.2, hr1, by rw [hq], by rw [hq], by rw [hq]; exact hlo⟩
      obtain ⟨A', p', r1, r2, r3, r4⟩ := ih (n + 1) f p3 (A ++ [q]) (by omega) (by omega) D3 (by simp; omega) (hE.snoc hqe)
      refine ⟨A', p', ?_, r2, r3, r4⟩
      show (ZU 600).b _ _ ((ZU 600).L f) some = _
      obtain ⟨Lf, hLf⟩ : ∃ Lf, Lf = (ZU 600).L f := ⟨_, rfl⟩
      rw [← hLf] at r1 ⊢
      rw [List.length_append] at r1
      simp only [ZU]
      have hz1 : (0 ≤ (r : Int) ∧ (r : Int) ≤ (L.length : Int)) := by omega
      have hz2 : (0 ≤ (0 : Int) ∧ (0 : Int) < ((L.length - r : Nat) : Int)) := by omega
      have hd1 : (fl Ren1 (pks n 0 L.length)).drop ((0 + r + Int.toNat 0) * 9) = Ren1 (pick n r) ++ fl Ren1 (pks n (r + 1) L.length) := by
        rw [show (0 + r + Int.toNat 0) * 9 = r * 9 by simp, zhn n r _ (by omega)]
        have : pks n r L.length = pick n r :: pks n (r + 1) L.length := by
          unfold pks
          rw [show L.length - r = (L.length - (r + 1)) + 1 by omega, List.range'_succ]
          rfl
        rw [this]
        rfl
      have hd2 : zaB (0 + r) 9 (fl Ren1 (pks n 0 L.length)) = fl Ren1 (pks n r L.length) := by
        rw [zhc, Nat.zero_add, zhn n r _ (by omega)]
      have hg1 : (L.length - r) * 9 ≤ (fl Ren1 (pks n r L.length)).length := by rw [len1, jR]; omega
      have hch : zO ((fl Ren1 (pks n r L.length)).take ((L.length - r) * 9)) 9 (L.length - r) = (pks n r L.length).map Ren1 := zb9 Ren1 9 JF (fun _ => rfl) _ _ (by rw [jR])
      have hg2 : (A.length * 25 ≤ (fl Ren0 A).length ∧ (A.length + [Ren0 q].length) * 248 ≤ zl) := by
        rw [len0]; unfold zl; simp; omega
      simp only [e2, h1, e3, h2, hl, fl1, fl0, h3, h4, e4, hr, hz1, Int.toNat_natCast, hz2, and_self, if_true, hd1, zhb, hd2, hg1, hch]
      simp only [← hq, hg2, and_self, if_true, e7]
      rw [app0 A q _ rfl, fl0]
      exact r1
theorem evs_ok (m : Nat) (hm : m ≤ 20) {xs : List Int} {p : Int} (D : Sc xs p) : ∃ (A : List RT0) (p' : Int), F10_d 600 ((m : Int), zC xs, p) = some (A.map Ren0, zC xs, p') ∧ A.length ≤ m ∧ Evs 0 m A ∧ Sc xs p' := by
  obtain ⟨A, p', h1, h2, h3, h4⟩ := evs_loop m hm m 0 600 p [] (by omega) (by omega) D (by simp) (Nat.le_refl 0)
  refine ⟨A, p', ?_, h2, h3, h4⟩
  replace h1 : (ZU 600).L 600 (0, (m : Int), 0, zC xs, p, []) = some (A.length, zC xs, p', fl Ren0 A) := h1
  simp only [F10_d, FSpec.d, zig, F10_d5, h1]
  have hg : A.length * 25 ≤ (fl Ren0 A).length := by rw [len0]; exact Nat.le_refl _
  simp only [hg, if_true, zb9 Ren0 25 zan (fun _ => rfl) A _ rfl]
end Go.Proofs.Ytnnfpoelkdgjdaa
end
