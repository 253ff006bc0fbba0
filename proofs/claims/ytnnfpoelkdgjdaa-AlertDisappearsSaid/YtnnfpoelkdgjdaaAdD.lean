/- Several texts as one (written by pack.py). -/
import Derived.Test.YtnnfpoelkdgjdaaAdC
section
namespace Go.Proofs.Ytnnfpoelkdgjdaa
open Go.RowKit
set_option linter.unusedVariables false
set_option linter.unusedSimpArgs false
set_option linter.unnecessarySimpa false
set_option maxRecDepth 4000
abbrev RK4 : List Ck := [.int .i64, .int .i64, .int .i64, .int .i64]
abbrev RT4 : Type := Int × Int × Int × Int × Unit
def Rrd4 (c : List AV) : Option RT4 := dec RK4 c
def Ren4 (e : RT4) : List AV := enc RK4 e
theorem zgw (e : RT4) : Rrd4 (Ren4 e) = some e := zak (ks := RK4) e rfl
def F65_an : Nat → Keep × Keep := anL []
noncomputable def F65_g (N : Nat) : GamK := gam (P := Try.prog) []
noncomputable def ziu (N : Nat) : FSpec where
  X := RT4
  Y := Bool
  ash := [[none, none, none, none]]
  bsh := []
  S := ⟨[[none]], [], [], [], []⟩
  bm := false
  pat := fun a b => rdA [.agg RK4] [] a b fun ⟨a0, _⟩ _ => a0
  args := fun x => [(AV.agg (Ren4 x))]
  bs := fun x => []
  ret := fun y => ⟨(AV.v (.bool y)), [], none, [], [], []⟩
  t := fun x α k => (match (decide (x.1 ≥ (-1000))) with | true => (match (decide (x.1 ≤ 2000)) with | true => (match (decide (x.2.1 ≥ 1)) with | true => (match (decide (x.2.1 ≤ 64)) with | true => (match (decide ((if x.2.2.2.1 < x.2.2.1 then x.2.2.2.1 else x.2.2.1) ≥ 0)) with | true => (k (decide ((if x.2.2.2.1 > x.2.2.1 then x.2.2.2.1 else x.2.2.1) ≤ 9007199254740992))) | false => (k false)) | false => (k false)) | false => (k false)) | false => (k false)) | false => (k false))
noncomputable abbrev F65_d (N : Nat) (x : RT4) : Option (Bool) := (ziu N).d x
theorem F65_parF (N : Nat) : ParF (ziu N).t := by
  intro x α β k k' r r' h h1
  revert h
  dsimp only [ziu]
  (repeat' (first | (with_reducible refine zg ?_ ?_) | (with_reducible refine zc ?_ ?_) | split)) <;> intro h <;> first | exact h1 _ h | (cases h; done)
theorem F65_text (N : Nat) : TxOk (zt Try.prog) (F65_g N) F65_an (lam N []) Try.f65 (ziu N) := fun x => by kernel_rfl
noncomputable def F65_e (N : Nat) : Ent Try.prog := zB (zf Try.prog) (zk _) zm 65 Try.f65 Try.func65 rfl F65_an (lam N []) (zp (l := []) an (by kernel_rfl)) (ziu N) (fun _ => ⟨rfl, rfl⟩) (F65_text N) (fun _ _ _ h => zA h (fun _ _ => rfl) (fun _ _ => rfl)) (F65_parF N)
def JX : Nat → Keep × Keep := anL [(8, ⟨[33, 34], [], [], [(32, 4)], [], [], [], [], false⟩, ⟨[2], [], [], [], [], [], [], [], false⟩)]
noncomputable def F43_g (N : Nat) : GamK := gam (P := Try.prog) [F65_e N]
noncomputable def jt (N : Nat) : LSpec where
  X := (List (List AV)) × Int × Int
  Y := (Int) ⊕ (Unit)
  p := fun s => rdS 42 0 [(32, .lst 4), (33, .int .i64), (34, .int .i64)] [] s fun ⟨a0, a1, a2, _⟩ _ => (a0, a1, a2)
  st := fun u8 => mkS 42 [(32, (AV.list 4 u8.1 none)), (33, (AV.v (.int .i64 u8.2.1))), (34, (AV.v (.int .i64 u8.2.2)))] [] (JX 8).1.toks 0
  out := fun y => match y with
    | .inl y => (.ret, mkS 42 [(2, (AV.v (.int .i64 y)))] [] (JX 8).2.toks 0)
    | .inr y => (.exit 0, mkS 42 [] [] (JX 8).2.toks 0)
  sp := fun y α k => match y with
    | .inl y => k (.ret, mkS 42 [(2, (AV.v (.int .i64 y)))] [] (JX 8).2.toks 0)
    | .inr y => k (.exit 0, mkS 42 [] [] (JX 8).2.toks 0)
  spe := fun y α k => by rcases y with _ | _ <;> rfl
  b := fun u8 α kn ke => (match (decide (u8.2.2 < u8.2.1)) with | true => (if 0 ≤ u8.2.2 then (match u8.1[u8.2.2.toNat]? with | some c1 => (match Rrd4 c1 with | some e2 => (match F65_d N e2 with | some y3 => (match (!y3) with | true => (ke (.inl 27)) | false => (kn (u8.1, u8.2.1, (i64 (u8.2.2 + 1))))) | none => none) | none => none) | none => none) else none) | false => (ke (.inr ())))
noncomputable abbrev F43_d8 (N : Nat) (x : (List (List AV)) × Int × Int) : Option ((Int) ⊕ (Unit)) := (jt N).L N x
noncomputable def zcS (N : Nat) : FSpec where
  X := (List (List AV)) × Int × Int
  Y := Int
  ash := [[some 4, none, none]]
  bsh := []
  S := ⟨[[none]], [], [], [], []⟩
  bm := false
  pat := fun a b => zj a fun v1 c2 => Z4 v1 fun c3 => zj c3 fun c4 c5 => pLst 4 c4 fun a0 => zj c5 fun c6 c7 => pInt .i64 c6 fun a1 => zj c7 fun c8 c9 => pInt .i64 c8 fun a2 => pEnd c9 <| pEnd c2 <| pEnd b <| some (a0, a1, a2)
  args := fun x => [(AV.agg [(AV.list 4 x.1 none), (AV.v (.int .i64 x.2.1)), (AV.v (.int .i64 x.2.2))])]
  bs := fun x => []
  ret := fun y => ⟨(AV.v (.int .i64 y)), [], none, [], [], []⟩
  t := fun x α k => (match (decide ((x.1.length : Int) < 1)) with | true => (k 27) | false => (match (decide ((x.1.length : Int) > 8)) with | true => (k 27) | false => (match (decide ((if x.2.2 < x.2.1 then x.2.2 else x.2.1) < 0)) with | true => (k 27) | false => (match (decide ((if x.2.2 > x.2.1 then x.2.2 else x.2.1) > 9007199254740992)) with | true => (k 27) | false => (match F43_d8 N (x.1, (x.1.length : Int), 0) with | some y4 => (match y4 with | .inl z5 => (k z5) | .inr z6 => (k 0)) | none => none)))))
noncomputable abbrev F43_d (N : Nat) (x : (List (List AV)) × Int × Int) : Option (Int) := (zcS N).d x
noncomputable def zeU (N : Nat) : List (Nat × LSpec) := [(8, jt N)]
noncomputable def F43_c : Code := Try.f43.body.getD .skip
theorem F43_par8 (N : Nat) : Par (jt N).b := by
  intro x α β kn ke kn' ke' r r' h h1 h2
  revert h
  dsimp only [jt]
  (repeat' (first | (with_reducible refine zg ?_ ?_) | (with_reducible refine zc ?_ ?_) | split)) <;> intro h <;> first | exact h1 _ h | exact h2 _ h | (cases h; done)
theorem zjC (N : Nat) : BdOk (zt Try.prog) (F43_g N) JX N (zeU N) 8 F43_c (jt N) := fun x α kn ke => by kernel_rfl
theorem zlI (N : Nat) : LpOk Try.prog JX N (zeU N) 8 (zd 8 F43_c) :=
  zE (zf Try.prog) (zk _) zm JX N (zeU N) 8 F43_c (l := []) (by kernel_rfl) (by kernel_rfl) an (jt N) rfl (fun s x hc h => by dsimp only [jt] at h; exact zH hc h (fun _ _ => rfl) rfl rfl) (fun _ => rfl) (zjC N) (F43_par8 N)
theorem F43_parF (N : Nat) : ParF (zcS N).t := by
  intro x α β k k' r r' h h1
  revert h
  dsimp only [zcS]
  (repeat' (first | (with_reducible refine zg ?_ ?_) | (with_reducible refine zc ?_ ?_) | split)) <;> intro h <;> first | exact h1 _ h | (cases h; done)
theorem F43_text (N : Nat) : TxOk (zt Try.prog) (F43_g N) JX (lam N (zeU N)) Try.f43 (zcS N) := fun x => by kernel_rfl
theorem F43_pat (N : Nat) (a : List AV) (b : List (List AV)) (x : (zcS N).X) (h : (zcS N).pat a b = some x) : a = (zcS N).args x ∧ b = (zcS N).bs x := by
  obtain ⟨v1, c2, rfl, g0⟩ := zb (show zj _ _ = some x from h)
  obtain ⟨c3, rfl, g1⟩ := zJ g0; clear g0
  obtain ⟨c4, c5, rfl, g2⟩ := zb g1; clear g1
  obtain ⟨a0, rfl, g3⟩ := zy g2; clear g2
  obtain ⟨c6, c7, rfl, g4⟩ := zb g3; clear g3
  obtain ⟨a1, rfl, g5⟩ := zi g4; clear g4
  obtain ⟨c8, c9, rfl, g6⟩ := zb g5; clear g5
  obtain ⟨a2, rfl, g7⟩ := zi g6; clear g6
  obtain ⟨rfl, g8⟩ := ze g7; clear g7
  obtain ⟨rfl, g9⟩ := ze g8; clear g8
  obtain ⟨rfl, g10⟩ := ze g9; clear g9
  clear h
  cases g10
  exact ⟨rfl, rfl⟩
noncomputable def F43_e (N : Nat) : Ent Try.prog := zB (zf Try.prog) (zk _) zm 43 Try.f43 Try.func43 rfl JX (lam N (zeU N)) (zp (l := [(8, zd 8 F43_c)]) (al (zlI N) an) (by kernel_rfl)) (zcS N) (fun _ => ⟨rfl, rfl⟩) (F43_text N) (F43_pat N) (F43_parF N)
def F46_an : Nat → Keep × Keep := anL []
noncomputable def F46_g (N : Nat) : GamK := gam (P := Try.prog) []
noncomputable def zhM (N : Nat) : FSpec where
  X := RT3 × Int
  Y := Bool × Int
  ash := [[none, none, none, none, none, none, none, none, none, none, none, none, none, none, none, none, none, none, none, none, none, some 9, none, none, none, none, none, none, none, none, none, none, none, none, none, none, none, none], [none]]
  bsh := [[none]]
  S := ⟨[[none]], [[]], [], [], []⟩
  bm := false
  pat := fun a b => rdA [.agg RK3, .ptr 0 0] [.cells [.int .i64]] a b fun ⟨a0, _, _⟩ ⟨⟨a1, _⟩, _⟩ => (a0, a1)
  args := fun x => [(AV.agg (Ren3 x.1)), (AV.ptr 0 0)]
  bs := fun x => [[(AV.v (.int .i64 x.2))]]
  ret := fun y => ⟨(AV.v (.bool y.1)), [[(AV.v (.int .i64 y.2))]], none, [], [], []⟩
  t := fun x α k => (k ((decide (x.2 < x.1.2.2.2.2.2.2.2.2.2.2.2.2.2.2.2.2.2.2.2.2.2.2.2.2.2.2.2.2.2.2.2.2.2.2.2.2.2.1)), x.2))
noncomputable abbrev F46_d (N : Nat) (x : RT3 × Int) : Option (Bool × Int) := (zhM N).d x
theorem F46_parF (N : Nat) : ParF (zhM N).t := by
  intro x α β k k' r r' h h1
  revert h
  dsimp only [zhM]
  (repeat' (first | (with_reducible refine zg ?_ ?_) | (with_reducible refine zc ?_ ?_) | split)) <;> intro h <;> first | exact h1 _ h | (cases h; done)
theorem F46_text (N : Nat) : TxOk (zt Try.prog) (F46_g N) F46_an (lam N []) Try.f46 (zhM N) := fun x => by kernel_rfl
noncomputable def F46_e (N : Nat) : Ent Try.prog := zB (zf Try.prog) (zk _) zm 46 Try.f46 Try.func46 rfl F46_an (lam N []) (zp (l := []) an (by kernel_rfl)) (zhM N) (fun _ => ⟨rfl, rfl⟩) (F46_text N) (fun _ _ _ h => zA h (fun _ _ => rfl) (fun _ _ => rfl)) (F46_parF N)
def Jt : Nat → Keep × Keep := anL [(4, ⟨[1, 7, 8], [], [0], [(0, 38)], [], [], [], [], false⟩, ⟨[4], [], [0], [], [], [], [], [], false⟩)]
noncomputable def F63_g (N : Nat) : GamK := gam (P := Try.prog) [F46_e N]
noncomputable def jd (N : Nat) : LSpec where
  X := (List (List AV)) × Int × Int × Int
  Y := (Int × Int) ⊕ (Int)
  p := fun s => pNat s.env.length 19 <| pNat s.nin 1 <| pLst 38 (s.at 0) fun a0 => pFn 46 (s.at 1) fun c4 c5 => pEnd c4 <| zj c5 fun c7 c8 => pPtr 0 0 c7 <| pEnd c8 <| pInt .i64 (s.at 7) fun a1 => pInt .i64 (s.at 8) fun a2 => zT (s.bx 0) fun c11 => zj c11 fun c13 c14 => pInt .i64 c13 fun a3 => pEnd c14 <| some (a0, a1, a2, a3)
  st := fun u4 => mkS 19 [(0, (AV.list 38 u4.1 none)), (1, (AV.fn (.func 46) [] [(AV.ptr 0 0)])), (7, (AV.v (.int .i64 u4.2.1))), (8, (AV.v (.int .i64 u4.2.2.1)))] [(0, [(AV.v (.int .i64 u4.2.2.2))])] (Jt 4).1.toks 1
  out := fun y => match y with
    | .inl y => (.ret, mkS 19 [(4, (AV.v (.int .i64 y.1)))] [(0, [(AV.v (.int .i64 y.2))])] (Jt 4).2.toks 1)
    | .inr y => (.exit 0, mkS 19 [] [(0, [(AV.v (.int .i64 y))])] (Jt 4).2.toks 1)
  sp := fun y α k => match y with
    | .inl y => k (.ret, mkS 19 [(4, (AV.v (.int .i64 y.1)))] [(0, [(AV.v (.int .i64 y.2))])] (Jt 4).2.toks 1)
    | .inr y => k (.exit 0, mkS 19 [] [(0, [(AV.v (.int .i64 y))])] (Jt 4).2.toks 1)
  spe := fun y α k => by rcases y with _ | _ <;> rfl
  b := fun u4 α kn ke => (match (decide (u4.2.2.1 < u4.2.1)) with | true => (if 0 ≤ u4.2.2.1 then (match u4.1[u4.2.2.1.toNat]? with | some c4 => (match Rrd3 c4 with | some e5 => (match F46_d N (e5, u4.2.2.2) with | some y6 => (match y6.1 with | true => (ke (.inl (u4.2.2.1, y6.2))) | false => (kn (u4.1, u4.2.1, (i64 (u4.2.2.1 + 1)), y6.2))) | none => none) | none => none) | none => none) else none) | false => (ke (.inr u4.2.2.2)))
noncomputable abbrev F63_d4 (N : Nat) (x : (List (List AV)) × Int × Int × Int) : Option ((Int × Int) ⊕ (Int)) := (jd N).L N x
noncomputable def zcy (N : Nat) : FSpec where
  X := (List (List AV)) × Int
  Y := Int × Int
  ash := [[some 38], [none]]
  bsh := [[none]]
  S := ⟨[[none]], [[]], [], [], []⟩
  bm := false
  pat := fun a b => zj a fun v1 c2 => pLst 38 v1 fun a0 => zj c2 fun v3 c4 => pFn 46 v3 fun c5 c6 => pEnd c5 <| zj c6 fun c7 c8 => pPtr 0 0 c7 <| pEnd c8 <| pEnd c4 <| zj b fun v9 c10 => zj v9 fun c11 c12 => pInt .i64 c11 fun a1 => pEnd c12 <| pEnd c10 <| some (a0, a1)
  args := fun x => [(AV.list 38 x.1 none), (AV.fn (.func 46) [] [(AV.ptr 0 0)])]
  bs := fun x => [[(AV.v (.int .i64 x.2))]]
  ret := fun y => ⟨(AV.v (.int .i64 y.1)), [[(AV.v (.int .i64 y.2))]], none, [], [], []⟩
  t := fun x α k => (match F63_d4 N (x.1, (x.1.length : Int), 0, x.2) with | some y7 => (match y7 with | .inl z8 => (k z8) | .inr z9 => (k ((-1), z9))) | none => none)
noncomputable abbrev F63_d (N : Nat) (x : (List (List AV)) × Int) : Option (Int × Int) := (zcy N).d x
noncomputable def ze3 (N : Nat) : List (Nat × LSpec) := [(4, jd N)]
noncomputable def F63_c : Code := Try.f63.body.getD .skip
theorem F63_par4 (N : Nat) : Par (jd N).b := by
  intro x α β kn ke kn' ke' r r' h h1 h2
  revert h
  dsimp only [jd]
  (repeat' (first | (with_reducible refine zg ?_ ?_) | (with_reducible refine zc ?_ ?_) | split)) <;> intro h <;> first | exact h1 _ h | exact h2 _ h | (cases h; done)
theorem zjY (N : Nat) : BdOk (zt Try.prog) (F63_g N) Jt N (ze3 N) 4 F63_c (jd N) := fun x α kn ke => by kernel_rfl
theorem F63_pat4 (N : Nat) (s : AS) (x : (jd N).X) (hc : s = Zp (Jt 4).1 s) (h : (jd N).p s = some x) : s = (jd N).st x := by
  replace h : pNat _ _ _ = some x := h
  obtain ⟨h1, g0⟩ := zS h
  obtain ⟨h2, g1⟩ := zS g0; clear g0
  obtain ⟨a0, h3, g2⟩ := zy g1; clear g1
  obtain ⟨c4, c5, h6, g3⟩ := jf g2; clear g2
  obtain ⟨rfl, g4⟩ := ze g3; clear g3
  obtain ⟨c7, c8, rfl, g5⟩ := zb g4; clear g4
  obtain ⟨rfl, g6⟩ := zo g5; clear g5
  obtain ⟨rfl, g7⟩ := ze g6; clear g6
  obtain ⟨a1, h9, g8⟩ := zi g7; clear g7
  obtain ⟨a2, h10, g9⟩ := zi g8; clear g8
  obtain ⟨c11, h12, g10⟩ := zr g9; clear g9
  obtain ⟨c13, c14, rfl, g11⟩ := zb g10; clear g10
  obtain ⟨a3, rfl, g12⟩ := zi g11; clear g11
  obtain ⟨rfl, g13⟩ := ze g12; clear g12
  clear h
  cases g13
  exact Zt hc h1 h2 rfl rfl rfl ⟨h3, h6, h9, h10, trivial⟩ ⟨h12, trivial⟩
theorem zlE (N : Nat) : LpOk Try.prog Jt N (ze3 N) 4 (zd 4 F63_c) :=
  zE (zf Try.prog) (zk _) zm Jt N (ze3 N) 4 F63_c (l := []) (by kernel_rfl) (by kernel_rfl) an (jd N) rfl (F63_pat4 N) (fun _ => rfl) (zjY N) (F63_par4 N)
theorem F63_parF (N : Nat) : ParF (zcy N).t := by
  intro x α β k k' r r' h h1
  revert h
  dsimp only [zcy]
  (repeat' (first | (with_reducible refine zg ?_ ?_) | (with_reducible refine zc ?_ ?_) | split)) <;> intro h <;> first | exact h1 _ h | (cases h; done)
theorem F63_text (N : Nat) : TxOk (zt Try.prog) (F63_g N) Jt (lam N (ze3 N)) Try.f63 (zcy N) := fun x => by kernel_rfl
theorem F63_pat (N : Nat) (a : List AV) (b : List (List AV)) (x : (zcy N).X) (h : (zcy N).pat a b = some x) : a = (zcy N).args x ∧ b = (zcy N).bs x := by
  obtain ⟨v1, c2, rfl, g0⟩ := zb (show zj _ _ = some x from h)
  obtain ⟨a0, rfl, g1⟩ := zy g0; clear g0
  obtain ⟨v3, c4, rfl, g2⟩ := zb g1; clear g1
  obtain ⟨c5, c6, rfl, g3⟩ := jf g2; clear g2
  obtain ⟨rfl, g4⟩ := ze g3; clear g3
  obtain ⟨c7, c8, rfl, g5⟩ := zb g4; clear g4
  obtain ⟨rfl, g6⟩ := zo g5; clear g5
  obtain ⟨rfl, g7⟩ := ze g6; clear g6
  obtain ⟨rfl, g8⟩ := ze g7; clear g7
  obtain ⟨v9, c10, rfl, g9⟩ := zb g8; clear g8
  obtain ⟨c11, c12, rfl, g10⟩ := zb g9; clear g9
  obtain ⟨a1, rfl, g11⟩ := zi g10; clear g10
  obtain ⟨rfl, g12⟩ := ze g11; clear g11
  obtain ⟨rfl, g13⟩ := ze g12; clear g12
  clear h
  cases g13
  exact ⟨rfl, rfl⟩
noncomputable def F63_e (N : Nat) : Ent Try.prog := zB (zf Try.prog) (zk _) zm 63 Try.f63 Try.func63 rfl Jt (lam N (ze3 N)) (zp (l := [(4, zd 4 F63_c)]) (al (zlE N) an) (by kernel_rfl)) (zcy N) (fun _ => ⟨rfl, rfl⟩) (F63_text N) (F63_pat N) (F63_parF N)
def F45_an : Nat → Keep × Keep := anL []
noncomputable def F45_g (N : Nat) : GamK := gam (P := Try.prog) [F63_e N]
noncomputable def zcv (N : Nat) : FSpec where
  X := (List (List AV)) × Int
  Y := Bool × Int
  ash := [[some 38], [none]]
  bsh := [[none]]
  S := ⟨[[none]], [[none]], [], [], []⟩
  bm := false
  pat := fun a b => zj a fun v1 c2 => pLst 38 v1 fun a0 => zj c2 fun v3 c4 => pFn 46 v3 fun c5 c6 => pEnd c5 <| zj c6 fun c7 c8 => pPtr 0 0 c7 <| pEnd c8 <| pEnd c4 <| zj b fun v9 c10 => zj v9 fun c11 c12 => pInt .i64 c11 fun a1 => pEnd c12 <| pEnd c10 <| some (a0, a1)
  args := fun x => [(AV.list 38 x.1 none), (AV.fn (.func 46) [] [(AV.ptr 0 0)])]
  bs := fun x => [[(AV.v (.int .i64 x.2))]]
  ret := fun y => ⟨(AV.v (.bool y.1)), [[(AV.v (.int .i64 y.2))]], none, [], [], []⟩
  t := fun x α k => (match F63_d N x with | some y1 => (k ((decide (y1.1 ≥ 0)), y1.2)) | none => none)
noncomputable abbrev F45_d (N : Nat) (x : (List (List AV)) × Int) : Option (Bool × Int) := (zcv N).d x
theorem F45_parF (N : Nat) : ParF (zcv N).t := by
  intro x α β k k' r r' h h1
  revert h
  dsimp only [zcv]
  (repeat' (first | (with_reducible refine zg ?_ ?_) | (with_reducible refine zc ?_ ?_) | split)) <;> intro h <;> first | exact h1 _ h | (cases h; done)
theorem F45_text (N : Nat) : TxOk (zt Try.prog) (F45_g N) F45_an (lam N []) Try.f45 (zcv N) := fun x => by kernel_rfl
theorem F45_pat (N : Nat) (a : List AV) (b : List (List AV)) (x : (zcv N).X) (h : (zcv N).pat a b = some x) : a = (zcv N).args x ∧ b = (zcv N).bs x := by
  obtain ⟨v1, c2, rfl, g0⟩ := zb (show zj _ _ = some x from h)
  obtain ⟨a0, rfl, g1⟩ := zy g0; clear g0
  obtain ⟨v3, c4, rfl, g2⟩ := zb g1; clear g1
  obtain ⟨c5, c6, rfl, g3⟩ := jf g2; clear g2
  obtain ⟨rfl, g4⟩ := ze g3; clear g3
  obtain ⟨c7, c8, rfl, g5⟩ := zb g4; clear g4
  obtain ⟨rfl, g6⟩ := zo g5; clear g5
  obtain ⟨rfl, g7⟩ := ze g6; clear g6
  obtain ⟨rfl, g8⟩ := ze g7; clear g7
  obtain ⟨v9, c10, rfl, g9⟩ := zb g8; clear g8
  obtain ⟨c11, c12, rfl, g10⟩ := zb g9; clear g9
  obtain ⟨a1, rfl, g11⟩ := zi g10; clear g10
  obtain ⟨rfl, g12⟩ := ze g11; clear g11
  obtain ⟨rfl, g13⟩ := ze g12; clear g12
  clear h
  cases g13
  exact ⟨rfl, rfl⟩
noncomputable def F45_e (N : Nat) : Ent Try.prog := zB (zf Try.prog) (zk _) zm 45 Try.f45 Try.func45 rfl F45_an (lam N []) (zp (l := []) an (by kernel_rfl)) (zcv N) (fun _ => ⟨rfl, rfl⟩) (F45_text N) (F45_pat N) (F45_parF N)
def F27_an : Nat → Keep × Keep := anL []
noncomputable def F27_g (N : Nat) : GamK := gam (P := Try.prog) [F43_e N, F18_e N, F44_e N, F45_e N]
noncomputable def zcI (N : Nat) : FSpec where
  X := (List (List AV)) × Int × Int × (List (List AV)) × Int × (List (List AV)) × Int
  Y := Int
  ash := [[some 4, none, none], [some 38], [none], [some 25], [none]]
  bsh := []
  S := ⟨[[none]], [], [], [], []⟩
  bm := false
  pat := fun a b => zj a fun v1 c2 => Z4 v1 fun c3 => zj c3 fun c4 c5 => pLst 4 c4 fun a0 => zj c5 fun c6 c7 => pInt .i64 c6 fun a1 => zj c7 fun c8 c9 => pInt .i64 c8 fun a2 => pEnd c9 <| zj c2 fun v10 c11 => pLst 38 v10 fun a3 => zj c11 fun v12 c13 => pInt .i64 v12 fun a4 => zj c13 fun v14 c15 => pLst 25 v14 fun a5 => zj c15 fun v16 c17 => pInt .i64 v16 fun a6 => pEnd c17 <| pEnd b <| some (a0, a1, a2, a3, a4, a5, a6)
  args := fun x => [(AV.agg [(AV.list 4 x.1 none), (AV.v (.int .i64 x.2.1)), (AV.v (.int .i64 x.2.2.1))]), (AV.list 38 x.2.2.2.1 none), (AV.v (.int .i64 x.2.2.2.2.1)), (AV.list 25 x.2.2.2.2.2.1 none), (AV.v (.int .i64 x.2.2.2.2.2.2))]
  bs := fun x => []
  ret := fun y => ⟨(AV.v (.int .i64 y)), [], none, [], [], []⟩
  t := fun x α k => (match F43_d N (x.1, x.2.1, x.2.2.1) with | some y1 => (match (y1 != 0) with | true => (k 27) | false => (match F18_d N x.2.2.2.1 with | some y2 => (match (!y2) with | true => (k 1) | false => (match F44_d N x.2.2.2.2.2.1 with | some y3 => (match (!y3) with | true => (k 1) | false => (match (decide (x.2.2.2.2.1 < 0)) with | true => (k 1) | false => (match (decide ((x.2.2.2.1.length : Int) > 0)) with | true => (if 0 ≤ (i64 ((x.2.2.2.1.length : Int) - 1)) then (match x.2.2.2.1[(i64 ((x.2.2.2.1.length : Int) - 1)).toNat]? with | some c4 => (match (c4.drop 0)[0]? with | some x5 => (match x5 with | .v (.int q7 n6) => (if q7 = .i64 then (match (decide (x.2.2.2.2.1 ≤ n6)) with | true => (k 1) | false => (match (decide (x.2.2.2.2.2.2 < 0)) with | true => (k 2) | false => (match (decide (x.2.2.2.2.2.2 > 18014398509481984)) with | true => (k 2) | false => (match F45_d N (x.2.2.2.1, x.2.2.2.2.2.2) with | some y8 => (match y8.1 with | true => (k 9) | false => (k 0)) | none => none)))) else none) | _ => none) | none => none) | none => none) else none) | false => (match (decide (x.2.2.2.2.2.2 < 0)) with | true => (k 2) | false => (match (decide (x.2.2.2.2.2.2 > 18014398509481984)) with | true => (k 2) | false => (match F45_d N (x.2.2.2.1, x.2.2.2.2.2.2) with | some y9 => (match y9.1 with | true => (k 9) | false => (k 0)) | none => none)))))) | none => none)) | none => none)) | none => none)
noncomputable abbrev F27_d (N : Nat) (x : (List (List AV)) × Int × Int × (List (List AV)) × Int × (List (List AV)) × Int) : Option (Int) := (zcI N).d x
theorem F27_parF (N : Nat) : ParF (zcI N).t := by
  intro x α β k k' r r' h h1
  revert h
  dsimp only [zcI]
  (repeat' (first | (with_reducible refine zg ?_ ?_) | (with_reducible refine zc ?_ ?_) | split)) <;> intro h <;> first | exact h1 _ h | (cases h; done)
theorem F27_text (N : Nat) : TxOk (zt Try.prog) (F27_g N) F27_an (lam N []) Try.f27 (zcI N) := fun x => by kernel_rfl
theorem F27_pat (N : Nat) (a : List AV) (b : List (List AV)) (x : (zcI N).X) (h : (zcI N).pat a b = some x) : a = (zcI N).args x ∧ b = (zcI N).bs x := by
  obtain ⟨v1, c2, rfl, g0⟩ := zb (show zj _ _ = some x from h)
  obtain ⟨c3, rfl, g1⟩ := zJ g0; clear g0
  obtain ⟨c4, c5, rfl, g2⟩ := zb g1; clear g1
  obtain ⟨a0, rfl, g3⟩ := zy g2; clear g2
  obtain ⟨c6, c7, rfl, g4⟩ := zb g3; clear g3
  obtain ⟨a1, rfl, g5⟩ := zi g4; clear g4
  obtain ⟨c8, c9, rfl, g6⟩ := zb g5; clear g5
  obtain ⟨a2, rfl, g7⟩ := zi g6; clear g6
  obtain ⟨rfl, g8⟩ := ze g7; clear g7
  obtain ⟨v10, c11, rfl, g9⟩ := zb g8; clear g8
  obtain ⟨a3, rfl, g10⟩ := zy g9; clear g9
  obtain ⟨v12, c13, rfl, g11⟩ := zb g10; clear g10
  obtain ⟨a4, rfl, g12⟩ := zi g11; clear g11
  obtain ⟨v14, c15, rfl, g13⟩ := zb g12; clear g12
  obtain ⟨a5, rfl, g14⟩ := zy g13; clear g13
  obtain ⟨v16, c17, rfl, g15⟩ := zb g14; clear g14
  obtain ⟨a6, rfl, g16⟩ := zi g15; clear g15
  obtain ⟨rfl, g17⟩ := ze g16; clear g16
  obtain ⟨rfl, g18⟩ := ze g17; clear g17
  clear h
  cases g18
  exact ⟨rfl, rfl⟩
noncomputable def F27_e (N : Nat) : Ent Try.prog := zB (zf Try.prog) (zk _) zm 27 Try.f27 Try.func27 rfl F27_an (lam N []) (zp (l := []) an (by kernel_rfl)) (zcI N) (fun _ => ⟨rfl, rfl⟩) (F27_text N) (F27_pat N) (F27_parF N)
def F47_an : Nat → Keep × Keep := anL []
noncomputable def F47_g (N : Nat) : GamK := gam (P := Try.prog) []
noncomputable def ziv (N : Nat) : FSpec where
  X := (List (List AV))
  Y := (List (List AV))
  ash := [[some 9]]
  bsh := []
  S := ⟨[[some 2000009]], [], [], [], []⟩
  bm := false
  pat := fun a b => rdA [.lst 9] [] a b fun ⟨a0, _⟩ _ => a0
  args := fun x => [(AV.list 9 x none)]
  bs := fun x => []
  ret := fun y => ⟨(AV.list 9 y (some 2560000000)), [], none, [], [2560000000], []⟩
  t := fun x α k => (match x with | [] => (both (k ([] : List (List AV))) (if (([] : List (List AV)).length + x.length) * 104 ≤ zl then (k (([] : List (List AV)) ++ x)) else none)) | _ :: _ => (if (([] : List (List AV)).length + x.length) * 104 ≤ zl then (k (([] : List (List AV)) ++ x)) else none))
noncomputable abbrev F47_d (N : Nat) (x : (List (List AV))) : Option ((List (List AV))) := (ziv N).d x
theorem F47_parF (N : Nat) : ParF (ziv N).t := by
  intro x α β k k' r r' h h1
  revert h
  dsimp only [ziv]
  (repeat' (first | (with_reducible refine zg ?_ ?_) | (with_reducible refine zc ?_ ?_) | split)) <;> intro h <;> first | exact h1 _ h | (cases h; done)
theorem F47_text (N : Nat) : TxOk (zt Try.prog) (F47_g N) F47_an (lam N []) Try.f47 (ziv N) := fun x => by kernel_rfl
noncomputable def F47_e (N : Nat) : Ent Try.prog := zB (zf Try.prog) (zk _) zm 47 Try.f47 Try.func47 rfl F47_an (lam N []) (zp (l := []) an (by kernel_rfl)) (ziv N) (fun _ => ⟨rfl, rfl⟩) (F47_text N) (fun _ _ _ h => zA h (fun _ _ => rfl) (fun _ _ => rfl)) (F47_parF N)
def F29_an : Nat → Keep × Keep := anL []
noncomputable def F29_g (N : Nat) : GamK := gam (P := Try.prog) [F47_e N]
noncomputable def zjt (N : Nat) : FSpec where
  X := RT0
  Y := RT0
  ash := [[none, none, none, none, none, none, none, none, none, some 9, none, none, none, none, none, none, none, none, none, none, none, none, none, none, none]]
  bsh := []
  S := ⟨[[none, none, none, none, none, none, none, none, none, some 9, none, none, none, none, none, none, none, none, none, none, none, none, none, none, none]], [], [], [], []⟩
  bm := false
  pat := fun a b => rdA [.agg RK0] [] a b fun ⟨a0, _⟩ _ => a0
  args := fun x => [(AV.agg (Ren0 x))]
  bs := fun x => []
  ret := fun y => ⟨(AV.agg (Ren0 y)), [], none, [], [], []⟩
  t := fun x α k => (match F47_d N x.2.2.2.2.2.2.2.2.2.1 with | some y1 => (k (x.1, x.2.1, x.2.2.1, x.2.2.2.1, x.2.2.2.2.1, x.2.2.2.2.2.1, x.2.2.2.2.2.2.1, x.2.2.2.2.2.2.2.1, x.2.2.2.2.2.2.2.2.1, y1, x.2.2.2.2.2.2.2.2.2.2)) | none => none)
noncomputable abbrev zge (N : Nat) (x : RT0) : Option (RT0) := (zjt N).d x
theorem F29_parF (N : Nat) : ParF (zjt N).t := by
  intro x α β k k' r r' h h1
  revert h
  dsimp only [zjt]
  (repeat' (first | (with_reducible refine zg ?_ ?_) | (with_reducible refine zc ?_ ?_) | split)) <;> intro h <;> first | exact h1 _ h | (cases h; done)
theorem F29_text (N : Nat) : TxOk (zt Try.prog) (F29_g N) F29_an (lam N []) Try.f29 (zjt N) := fun x => by kernel_rfl
noncomputable def F29_e (N : Nat) : Ent Try.prog := zB (zf Try.prog) (zk _) zm 29 Try.f29 Try.func29 rfl F29_an (lam N []) (zp (l := []) an (by kernel_rfl)) (zjt N) (fun _ => ⟨rfl, rfl⟩) (F29_text N) (fun _ _ _ h => zA h (fun _ _ => rfl) (fun _ _ => rfl)) (F29_parF N)
def zm3 : Nat → Keep × Keep := anL []
noncomputable def F48a_g (N : Nat) : GamK := gam (P := Try.prog) []
noncomputable def zde (N : Nat) : FSpec where
  X := (List (List AV))
  Y := Nat × (List AV)
  ash := [[some 38]]
  bsh := []
  S := ⟨[[some 1000038]], [], [], [], []⟩
  bm := true
  pat := fun a b => rdA [.lst 38] [] a b fun ⟨a0, _⟩ _ => a0
  args := fun x => [(AV.list 38 x none)]
  bs := fun x => []
  ret := fun y => ⟨(AV.vs 0 0 y.1 38), [], some y.2, [], [], []⟩
  t := fun x α k => (match x with | [] => (both (k (0, ([] : List AV))) (if 0 * 38 ≤ ([] : List AV).length ∧ (0 + x.length) * 384 ≤ zl then (k ((0 + x.length), ((([] : List AV).take (0 * 38) ++ x.flatten).map dat0))) else none)) | _ :: _ => (if 0 * 38 ≤ ([] : List AV).length ∧ (0 + x.length) * 384 ≤ zl then (k ((0 + x.length), ((([] : List AV).take (0 * 38) ++ x.flatten).map dat0))) else none))
noncomputable abbrev zj7 (N : Nat) (x : (List (List AV))) : Option (Nat × (List AV)) := (zde N).d x
theorem zl2 (N : Nat) : ParF (zde N).t := by
  intro x α β k k' r r' h h1
  revert h
  dsimp only [zde]
  (repeat' (first | (with_reducible refine zg ?_ ?_) | (with_reducible refine zc ?_ ?_) | split)) <;> intro h <;> first | exact h1 _ h | (cases h; done)
theorem zmf (N : Nat) : TxOk (tabB Try.prog [5, 7]) (F48a_g N) zm3 (lam N []) Try.f48 (zde N) := fun x => by kernel_rfl
noncomputable def F48a_e (N : Nat) : Ent Try.prog := zB (zL Try.prog [5, 7]) (zk _) zm 48 Try.f48 Try.func48 rfl zm3 (lam N []) (zp (l := []) an (by kernel_rfl)) (zde N) (fun _ => ⟨rfl, rfl⟩) (zmf N) (fun _ _ _ h => zA h (fun _ _ => rfl) (fun _ _ => rfl)) (zl2 N)
abbrev RK5 : List Ck := [.str, .str, .str, .str, .int .i64, .int .i64, .int .i64, .int .i64, .int .i64, .int .i64]
abbrev RT5 : Type := ByteArray × ByteArray × ByteArray × ByteArray × Int × Int × Int × Int × Int × Int × Unit
def Ren5 (e : RT5) : List AV := enc RK5 e
def JW : Nat → Keep × Keep := anL [(4, ⟨[3, 7, 8], [], [3], [(0, 9)], [], [], [], [], false⟩, ⟨[4], [], [], [], [], [], [], [], false⟩)]
noncomputable def F78_g (N : Nat) : GamK := gam (P := Try.prog) []
noncomputable def Z3 (N : Nat) : LSpec where
  X := (List (List AV)) × Int × Int × RT1
  Y := (Int) ⊕ (Unit)
  p := fun s => rdS 19 0 [(0, .lst 9), (3, .ptr 3 0), (7, .int .i64), (8, .int .i64)] [(3, .row RK1)] s fun ⟨a0, _, a1, a2, _⟩ ⟨a3, _⟩ => (a0, a1, a2, a3)
  st := fun u4 => mkS 19 [(0, (AV.list 9 u4.1 none)), (3, (AV.ptr 3 0)), (7, (AV.v (.int .i64 u4.2.1))), (8, (AV.v (.int .i64 u4.2.2.1)))] [(3, (Ren1 u4.2.2.2))] (JW 4).1.toks 0
  out := fun y => match y with
    | .inl y => (.ret, mkS 19 [(4, (AV.v (.int .i64 y)))] [] (JW 4).2.toks 0)
    | .inr y => (.exit 0, mkS 19 [] [] (JW 4).2.toks 0)
  sp := fun y α k => match y with
    | .inl y => k (.ret, mkS 19 [(4, (AV.v (.int .i64 y)))] [] (JW 4).2.toks 0)
    | .inr y => k (.exit 0, mkS 19 [] [] (JW 4).2.toks 0)
  spe := fun y α k => by rcases y with _ | _ <;> rfl
  b := fun u4 α kn ke => (match (decide (u4.2.2.1 < u4.2.1)) with | true => (if 0 ≤ u4.2.2.1 then (match u4.1[u4.2.2.1.toNat]? with | some c1 => (match Rrd1 c1 with | some e2 => (match (((u4.2.2.2.1 == e2.1) && ((u4.2.2.2.2.1 == e2.2.1) && ((u4.2.2.2.2.2.1 == e2.2.2.1) && ((u4.2.2.2.2.2.2.1 == e2.2.2.2.1) && true)))) && ((u4.2.2.2.2.2.2.2.1 == e2.2.2.2.2.1) && ((u4.2.2.2.2.2.2.2.2.1 == e2.2.2.2.2.2.1) && ((u4.2.2.2.2.2.2.2.2.2.1 == e2.2.2.2.2.2.2.1) && ((u4.2.2.2.2.2.2.2.2.2.2.1 == e2.2.2.2.2.2.2.2.1) && ((u4.2.2.2.2.2.2.2.2.2.2.2.1 == e2.2.2.2.2.2.2.2.2.1) && true)))))) with | true => (ke (.inl u4.2.2.1)) | false => (kn (u4.1, u4.2.1, (i64 (u4.2.2.1 + 1)), u4.2.2.2))) | none => none) | none => none) else none) | false => (ke (.inr ())))
noncomputable abbrev F78_d4 (N : Nat) (x : (List (List AV)) × Int × Int × RT1) : Option ((Int) ⊕ (Unit)) := (Z3 N).L N x
noncomputable def zjh (N : Nat) : FSpec where
  X := (List (List AV)) × RT1
  Y := Int
  ash := [[some 9], [none, none, none, none, none, none, none, none, none]]
  bsh := []
  S := ⟨[[none]], [], [], [], []⟩
  bm := false
  pat := fun a b => rdA [.lst 9, .agg RK1] [] a b fun ⟨a0, a1, _⟩ _ => (a0, a1)
  args := fun x => [(AV.list 9 x.1 none), (AV.agg (Ren1 x.2))]
  bs := fun x => []
  ret := fun y => ⟨(AV.v (.int .i64 y)), [], none, [], [], []⟩
  t := fun x α k => (match F78_d4 N (x.1, (x.1.length : Int), 0, x.2) with | some y3 => (match y3 with | .inl z4 => (k z4) | .inr z5 => (k (-1))) | none => none)
noncomputable abbrev F78_d (N : Nat) (x : (List (List AV)) × RT1) : Option (Int) := (zjh N).d x
noncomputable def zfg (N : Nat) : List (Nat × LSpec) := [(4, Z3 N)]
noncomputable def F78_c : Code := Try.f78.body.getD .skip
theorem F78_par4 (N : Nat) : Par (Z3 N).b := by
  intro x α β kn ke kn' ke' r r' h h1 h2
  revert h
  dsimp only [Z3]
  (repeat' (first | (with_reducible refine zg ?_ ?_) | (with_reducible refine zc ?_ ?_) | split)) <;> intro h <;> first | exact h1 _ h | exact h2 _ h | (cases h; done)
theorem zkN (N : Nat) : BdOk (zt Try.prog) (F78_g N) JW N (zfg N) 4 F78_c (Z3 N) := fun x α kn ke => by kernel_rfl
theorem zj0 (N : Nat) : LpOk Try.prog JW N (zfg N) 4 (zd 4 F78_c) :=
  zE (zf Try.prog) (zk _) zm JW N (zfg N) 4 F78_c (l := []) (by kernel_rfl) (by kernel_rfl) an (Z3 N) rfl (fun s x hc h => by dsimp only [Z3] at h; exact zH hc h (fun _ _ => rfl) rfl rfl) (fun _ => rfl) (zkN N) (F78_par4 N)
theorem F78_parF (N : Nat) : ParF (zjh N).t := by
  intro x α β k k' r r' h h1
  revert h
  dsimp only [zjh]
  (repeat' (first | (with_reducible refine zg ?_ ?_) | (with_reducible refine zc ?_ ?_) | split)) <;> intro h <;> first | exact h1 _ h | (cases h; done)
theorem F78_text (N : Nat) : TxOk (zt Try.prog) (F78_g N) JW (lam N (zfg N)) Try.f78 (zjh N) := fun x => by kernel_rfl
noncomputable def F78_e (N : Nat) : Ent Try.prog := zB (zf Try.prog) (zk _) zm 78 Try.f78 Try.func78 rfl JW (lam N (zfg N)) (zp (l := [(4, zd 4 F78_c)]) (al (zj0 N) an) (by kernel_rfl)) (zjh N) (fun _ => ⟨rfl, rfl⟩) (F78_text N) (fun _ _ _ h => zA h (fun _ _ => rfl) (fun _ _ => rfl)) (F78_parF N)
def F62_an : Nat → Keep × Keep := anL []
noncomputable def F62_g (N : Nat) : GamK := gam (P := Try.prog) [F78_e N]
noncomputable def ziz (N : Nat) : FSpec where
  X := (List (List AV)) × RT1
  Y := Bool
  ash := [[some 9], [none, none, none, none, none, none, none, none, none]]
  bsh := []
  S := ⟨[[none]], [], [], [], []⟩
  bm := false
  pat := fun a b => rdA [.lst 9, .agg RK1] [] a b fun ⟨a0, a1, _⟩ _ => (a0, a1)
  args := fun x => [(AV.list 9 x.1 none), (AV.agg (Ren1 x.2))]
  bs := fun x => []
  ret := fun y => ⟨(AV.v (.bool y)), [], none, [], [], []⟩
  t := fun x α k => (match F78_d N x with | some y1 => (k (decide (y1 ≥ 0))) | none => none)
noncomputable abbrev F62_d (N : Nat) (x : (List (List AV)) × RT1) : Option (Bool) := (ziz N).d x
theorem F62_parF (N : Nat) : ParF (ziz N).t := by
  intro x α β k k' r r' h h1
  revert h
  dsimp only [ziz]
  (repeat' (first | (with_reducible refine zg ?_ ?_) | (with_reducible refine zc ?_ ?_) | split)) <;> intro h <;> first | exact h1 _ h | (cases h; done)
theorem F62_text (N : Nat) : TxOk (zt Try.prog) (F62_g N) F62_an (lam N []) Try.f62 (ziz N) := fun x => by kernel_rfl
noncomputable def F62_e (N : Nat) : Ent Try.prog := zB (zf Try.prog) (zk _) zm 62 Try.f62 Try.func62 rfl F62_an (lam N []) (zp (l := []) an (by kernel_rfl)) (ziz N) (fun _ => ⟨rfl, rfl⟩) (F62_text N) (fun _ _ _ h => zA h (fun _ _ => rfl) (fun _ _ => rfl)) (F62_parF N)
def F61_an : Nat → Keep × Keep := anL []
noncomputable def F61_g (N : Nat) : GamK := gam (P := Try.prog) [F62_e N]
noncomputable def ziQ (N : Nat) : FSpec where
  X := RT1 × RT0
  Y := Bool × RT0
  ash := [[none, none, none, none, none, none, none, none, none], [none]]
  bsh := [[none, none, none, none, none, none, none, none, none, some 9, none, none, none, none, none, none, none, none, none, none, none, none, none, none, none]]
  S := ⟨[[none]], [[]], [], [], []⟩
  bm := false
  pat := fun a b => rdA [.agg RK1, .ptr 0 0] [.row RK0] a b fun ⟨a0, _, _⟩ ⟨a1, _⟩ => (a0, a1)
  args := fun x => [(AV.agg (Ren1 x.1)), (AV.ptr 0 0)]
  bs := fun x => [(Ren0 x.2)]
  ret := fun y => ⟨(AV.v (.bool y.1)), [(Ren0 y.2)], none, [], [], []⟩
  t := fun x α k => (match F62_d N (x.2.2.2.2.2.2.2.2.2.2.1, x.1) with | some y1 => (k (y1, x.2)) | none => none)
noncomputable abbrev F61_d (N : Nat) (x : RT1 × RT0) : Option (Bool × RT0) := (ziQ N).d x
theorem F61_parF (N : Nat) : ParF (ziQ N).t := by
  intro x α β k k' r r' h h1
  revert h
  dsimp only [ziQ]
  (repeat' (first | (with_reducible refine zg ?_ ?_) | (with_reducible refine zc ?_ ?_) | split)) <;> intro h <;> first | exact h1 _ h | (cases h; done)
theorem F61_text (N : Nat) : TxOk (zt Try.prog) (F61_g N) F61_an (lam N []) Try.f61 (ziQ N) := fun x => by kernel_rfl
noncomputable def F61_e (N : Nat) : Ent Try.prog := zB (zf Try.prog) (zk _) zm 61 Try.f61 Try.func61 rfl F61_an (lam N []) (zp (l := []) an (by kernel_rfl)) (ziQ N) (fun _ => ⟨rfl, rfl⟩) (F61_text N) (fun _ _ _ h => zA h (fun _ _ => rfl) (fun _ _ => rfl)) (F61_parF N)
def Jr : Nat → Keep × Keep := anL [(4, ⟨[1, 7, 8], [], [0], [(0, 9)], [], [], [], [], false⟩, ⟨[4], [], [0], [], [], [], [], [], false⟩)]
noncomputable def F77_g (N : Nat) : GamK := gam (P := Try.prog) [F61_e N]
noncomputable def ZI (N : Nat) : LSpec where
  X := (List (List AV)) × Int × Int × RT0
  Y := (Int × RT0) ⊕ (RT0)
  p := fun s => pNat s.env.length 19 <| pNat s.nin 1 <| pLst 9 (s.at 0) fun a0 => pFn 61 (s.at 1) fun c4 c5 => pEnd c4 <| zj c5 fun c7 c8 => pPtr 0 0 c7 <| pEnd c8 <| pInt .i64 (s.at 7) fun a1 => pInt .i64 (s.at 8) fun a2 => zT (s.bx 0) fun c11 => pRow RK0 c11 fun a3 => some (a0, a1, a2, a3)
  st := fun u4 => mkS 19 [(0, (AV.list 9 u4.1 none)), (1, (AV.fn (.func 61) [] [(AV.ptr 0 0)])), (7, (AV.v (.int .i64 u4.2.1))), (8, (AV.v (.int .i64 u4.2.2.1)))] [(0, (Ren0 u4.2.2.2))] (Jr 4).1.toks 1
  out := fun y => match y with
    | .inl y => (.ret, mkS 19 [(4, (AV.v (.int .i64 y.1)))] [(0, (Ren0 y.2))] (Jr 4).2.toks 1)
    | .inr y => (.exit 0, mkS 19 [] [(0, (Ren0 y))] (Jr 4).2.toks 1)
  sp := fun y α k => match y with
    | .inl y => k (.ret, mkS 19 [(4, (AV.v (.int .i64 y.1)))] [(0, (Ren0 y.2))] (Jr 4).2.toks 1)
    | .inr y => k (.exit 0, mkS 19 [] [(0, (Ren0 y))] (Jr 4).2.toks 1)
  spe := fun y α k => by rcases y with _ | _ <;> rfl
  b := fun u4 α kn ke => (match (decide (u4.2.2.1 < u4.2.1)) with | true => (if 0 ≤ u4.2.2.1 then (match u4.1[u4.2.2.1.toNat]? with | some c4 => (match Rrd1 c4 with | some e5 => (match F61_d N (e5, u4.2.2.2) with | some y6 => (match y6.1 with | true => (ke (.inl (u4.2.2.1, y6.2))) | false => (kn (u4.1, u4.2.1, (i64 (u4.2.2.1 + 1)), y6.2))) | none => none) | none => none) | none => none) else none) | false => (ke (.inr u4.2.2.2)))
noncomputable abbrev F77_d4 (N : Nat) (x : (List (List AV)) × Int × Int × RT0) : Option ((Int × RT0) ⊕ (RT0)) := (ZI N).L N x
noncomputable def zcN (N : Nat) : FSpec where
  X := (List (List AV)) × RT0
  Y := Int × RT0
  ash := [[some 9], [none]]
  bsh := [[none, none, none, none, none, none, none, none, none, some 9, none, none, none, none, none, none, none, none, none, none, none, none, none, none, none]]
  S := ⟨[[none]], [[]], [], [], []⟩
  bm := false
  pat := fun a b => zj a fun v1 c2 => pLst 9 v1 fun a0 => zj c2 fun v3 c4 => pFn 61 v3 fun c5 c6 => pEnd c5 <| zj c6 fun c7 c8 => pPtr 0 0 c7 <| pEnd c8 <| pEnd c4 <| zj b fun v9 c10 => pRow RK0 v9 fun a1 => pEnd c10 <| some (a0, a1)
  args := fun x => [(AV.list 9 x.1 none), (AV.fn (.func 61) [] [(AV.ptr 0 0)])]
  bs := fun x => [(Ren0 x.2)]
  ret := fun y => ⟨(AV.v (.int .i64 y.1)), [(Ren0 y.2)], none, [], [], []⟩
  t := fun x α k => (match F77_d4 N (x.1, (x.1.length : Int), 0, x.2) with | some y7 => (match y7 with | .inl z8 => (k z8) | .inr z9 => (k ((-1), z9))) | none => none)
noncomputable abbrev F77_d (N : Nat) (x : (List (List AV)) × RT0) : Option (Int × RT0) := (zcN N).d x
noncomputable def zeW (N : Nat) : List (Nat × LSpec) := [(4, ZI N)]
noncomputable def F77_c : Code := Try.f77.body.getD .skip
theorem F77_par4 (N : Nat) : Par (ZI N).b := by
  intro x α β kn ke kn' ke' r r' h h1 h2
  revert h
  dsimp only [ZI]
  (repeat' (first | (with_reducible refine zg ?_ ?_) | (with_reducible refine zc ?_ ?_) | split)) <;> intro h <;> first | exact h1 _ h | exact h2 _ h | (cases h; done)
theorem zjT (N : Nat) : BdOk (zt Try.prog) (F77_g N) Jr N (zeW N) 4 F77_c (ZI N) := fun x α kn ke => by kernel_rfl
theorem F77_pat4 (N : Nat) (s : AS) (x : (ZI N).X) (hc : s = Zp (Jr 4).1 s) (h : (ZI N).p s = some x) : s = (ZI N).st x := by
  replace h : pNat _ _ _ = some x := h
  obtain ⟨h1, g0⟩ := zS h
  obtain ⟨h2, g1⟩ := zS g0; clear g0
  obtain ⟨a0, h3, g2⟩ := zy g1; clear g1
  obtain ⟨c4, c5, h6, g3⟩ := jf g2; clear g2
  obtain ⟨rfl, g4⟩ := ze g3; clear g3
  obtain ⟨c7, c8, rfl, g5⟩ := zb g4; clear g4
  obtain ⟨rfl, g6⟩ := zo g5; clear g5
  obtain ⟨rfl, g7⟩ := ze g6; clear g6
  obtain ⟨a1, h9, g8⟩ := zi g7; clear g7
  obtain ⟨a2, h10, g9⟩ := zi g8; clear g8
  obtain ⟨c11, h12, g10⟩ := zr g9; clear g9
  obtain ⟨a3, rfl, g11⟩ := zca g10; clear g10
  clear h
  cases g11
  exact Zt hc h1 h2 rfl rfl rfl ⟨h3, h6, h9, h10, trivial⟩ ⟨h12, trivial⟩
theorem zk2 (N : Nat) : LpOk Try.prog Jr N (zeW N) 4 (zd 4 F77_c) :=
  zE (zf Try.prog) (zk _) zm Jr N (zeW N) 4 F77_c (l := []) (by kernel_rfl) (by kernel_rfl) an (ZI N) rfl (F77_pat4 N) (fun _ => rfl) (zjT N) (F77_par4 N)
theorem F77_parF (N : Nat) : ParF (zcN N).t := by
  intro x α β k k' r r' h h1
  revert h
  dsimp only [zcN]
  (repeat' (first | (with_reducible refine zg ?_ ?_) | (with_reducible refine zc ?_ ?_) | split)) <;> intro h <;> first | exact h1 _ h | (cases h; done)
theorem F77_text (N : Nat) : TxOk (zt Try.prog) (F77_g N) Jr (lam N (zeW N)) Try.f77 (zcN N) := fun x => by kernel_rfl
theorem F77_pat (N : Nat) (a : List AV) (b : List (List AV)) (x : (zcN N).X) (h : (zcN N).pat a b = some x) : a = (zcN N).args x ∧ b = (zcN N).bs x := by
  obtain ⟨v1, c2, rfl, g0⟩ := zb (show zj _ _ = some x from h)
  obtain ⟨a0, rfl, g1⟩ := zy g0; clear g0
  obtain ⟨v3, c4, rfl, g2⟩ := zb g1; clear g1
  obtain ⟨c5, c6, rfl, g3⟩ := jf g2; clear g2
  obtain ⟨rfl, g4⟩ := ze g3; clear g3
  obtain ⟨c7, c8, rfl, g5⟩ := zb g4; clear g4
  obtain ⟨rfl, g6⟩ := zo g5; clear g5
  obtain ⟨rfl, g7⟩ := ze g6; clear g6
  obtain ⟨rfl, g8⟩ := ze g7; clear g7
  obtain ⟨v9, c10, rfl, g9⟩ := zb g8; clear g8
  obtain ⟨a1, rfl, g10⟩ := zca g9; clear g9
  obtain ⟨rfl, g11⟩ := ze g10; clear g10
  clear h
  cases g11
  exact ⟨rfl, rfl⟩
noncomputable def F77_e (N : Nat) : Ent Try.prog := zB (zf Try.prog) (zk _) zm 77 Try.f77 Try.func77 rfl Jr (lam N (zeW N)) (zp (l := [(4, zd 4 F77_c)]) (al (zk2 N) an) (by kernel_rfl)) (zcN N) (fun _ => ⟨rfl, rfl⟩) (F77_text N) (F77_pat N) (F77_parF N)
def F60_an : Nat → Keep × Keep := anL []
noncomputable def F60_g (N : Nat) : GamK := gam (P := Try.prog) [F77_e N]
noncomputable def zcw (N : Nat) : FSpec where
  X := (List (List AV)) × RT0
  Y := Bool × RT0
  ash := [[some 9], [none]]
  bsh := [[none, none, none, none, none, none, none, none, none, some 9, none, none, none, none, none, none, none, none, none, none, none, none, none, none, none]]
  S := ⟨[[none]], [[none, none, none, none, none, none, none, none, none, some 9, none, none, none, none, none, none, none, none, none, none, none, none, none, none, none]], [], [], []⟩
  bm := false
  pat := fun a b => zj a fun v1 c2 => pLst 9 v1 fun a0 => zj c2 fun v3 c4 => pFn 61 v3 fun c5 c6 => pEnd c5 <| zj c6 fun c7 c8 => pPtr 0 0 c7 <| pEnd c8 <| pEnd c4 <| zj b fun v9 c10 => pRow RK0 v9 fun a1 => pEnd c10 <| some (a0, a1)
  args := fun x => [(AV.list 9 x.1 none), (AV.fn (.func 61) [] [(AV.ptr 0 0)])]
  bs := fun x => [(Ren0 x.2)]
  ret := fun y => ⟨(AV.v (.bool y.1)), [(Ren0 y.2)], none, [], [], []⟩
  t := fun x α k => (match F77_d N x with | some y1 => (k ((decide (y1.1 ≥ 0)), y1.2)) | none => none)
noncomputable abbrev F60_d (N : Nat) (x : (List (List AV)) × RT0) : Option (Bool × RT0) := (zcw N).d x
theorem F60_parF (N : Nat) : ParF (zcw N).t := by
  intro x α β k k' r r' h h1
  revert h
  dsimp only [zcw]
  (repeat' (first | (with_reducible refine zg ?_ ?_) | (with_reducible refine zc ?_ ?_) | split)) <;> intro h <;> first | exact h1 _ h | (cases h; done)
theorem F60_text (N : Nat) : TxOk (zt Try.prog) (F60_g N) F60_an (lam N []) Try.f60 (zcw N) := fun x => by kernel_rfl
theorem F60_pat (N : Nat) (a : List AV) (b : List (List AV)) (x : (zcw N).X) (h : (zcw N).pat a b = some x) : a = (zcw N).args x ∧ b = (zcw N).bs x := by
  obtain ⟨v1, c2, rfl, g0⟩ := zb (show zj _ _ = some x from h)
  obtain ⟨a0, rfl, g1⟩ := zy g0; clear g0
  obtain ⟨v3, c4, rfl, g2⟩ := zb g1; clear g1
  obtain ⟨c5, c6, rfl, g3⟩ := jf g2; clear g2
  obtain ⟨rfl, g4⟩ := ze g3; clear g3
  obtain ⟨c7, c8, rfl, g5⟩ := zb g4; clear g4
  obtain ⟨rfl, g6⟩ := zo g5; clear g5
  obtain ⟨rfl, g7⟩ := ze g6; clear g6
  obtain ⟨rfl, g8⟩ := ze g7; clear g7
  obtain ⟨v9, c10, rfl, g9⟩ := zb g8; clear g8
  obtain ⟨a1, rfl, g10⟩ := zca g9; clear g9
  obtain ⟨rfl, g11⟩ := ze g10; clear g10
  clear h
  cases g11
  exact ⟨rfl, rfl⟩
noncomputable def F60_e (N : Nat) : Ent Try.prog := zB (zf Try.prog) (zk _) zm 60 Try.f60 Try.func60 rfl F60_an (lam N []) (zp (l := []) an (by kernel_rfl)) (zcw N) (fun _ => ⟨rfl, rfl⟩) (F60_text N) (F60_pat N) (F60_parF N)
def F38_an : Nat → Keep × Keep := anL []
noncomputable def F38_g (N : Nat) : GamK := gam (P := Try.prog) [F60_e N]
noncomputable def zhH (N : Nat) : FSpec where
  X := RT0 × RT0
  Y := Bool
  ash := [[none, none, none, none, none, none, none, none, none, some 9, none, none, none, none, none, none, none, none, none, none, none, none, none, none, none], [none, none, none, none, none, none, none, none, none, some 9, none, none, none, none, none, none, none, none, none, none, none, none, none, none, none]]
  bsh := []
  S := ⟨[[none]], [], [], [], []⟩
  bm := false
  pat := fun a b => rdA [.agg RK0, .agg RK0] [] a b fun ⟨a0, a1, _⟩ _ => (a0, a1)
  args := fun x => [(AV.agg (Ren0 x.1)), (AV.agg (Ren0 x.2))]
  bs := fun x => []
  ret := fun y => ⟨(AV.v (.bool y)), [], none, [], [], []⟩
  t := fun x α k => (match F60_d N (x.1.2.2.2.2.2.2.2.2.2.1, x.2) with | some y1 => (k y1.1) | none => none)
noncomputable abbrev F38_d (N : Nat) (x : RT0 × RT0) : Option (Bool) := (zhH N).d x
theorem F38_parF (N : Nat) : ParF (zhH N).t := by
  intro x α β k k' r r' h h1
  revert h
  dsimp only [zhH]
  (repeat' (first | (with_reducible refine zg ?_ ?_) | (with_reducible refine zc ?_ ?_) | split)) <;> intro h <;> first | exact h1 _ h | (cases h; done)
theorem F38_text (N : Nat) : TxOk (zt Try.prog) (F38_g N) F38_an (lam N []) Try.f38 (zhH N) := fun x => by kernel_rfl
noncomputable def F38_e (N : Nat) : Ent Try.prog := zB (zf Try.prog) (zk _) zm 38 Try.f38 Try.func38 rfl F38_an (lam N []) (zp (l := []) an (by kernel_rfl)) (zhH N) (fun _ => ⟨rfl, rfl⟩) (F38_text N) (fun _ _ _ h => zA h (fun _ _ => rfl) (fun _ _ => rfl)) (F38_parF N)
@[reducible] def jU (e : RT3) : RT0 := (e.2.2.2.2.2.2.2.2.2.2.2.2.1, e.2.2.2.2.2.2.2.2.2.2.2.2.2.1, e.2.2.2.2.2.2.2.2.2.2.2.2.2.2.1, e.2.2.2.2.2.2.2.2.2.2.2.2.2.2.2.1, e.2.2.2.2.2.2.2.2.2.2.2.2.2.2.2.2.1, e.2.2.2.2.2.2.2.2.2.2.2.2.2.2.2.2.2.1, e.2.2.2.2.2.2.2.2.2.2.2.2.2.2.2.2.2.2.1, e.2.2.2.2.2.2.2.2.2.2.2.2.2.2.2.2.2.2.2.1, e.2.2.2.2.2.2.2.2.2.2.2.2.2.2.2.2.2.2.2.2.1, e.2.2.2.2.2.2.2.2.2.2.2.2.2.2.2.2.2.2.2.2.2.1, e.2.2.2.2.2.2.2.2.2.2.2.2.2.2.2.2.2.2.2.2.2.2.1, e.2.2.2.2.2.2.2.2.2.2.2.2.2.2.2.2.2.2.2.2.2.2.2.1, e.2.2.2.2.2.2.2.2.2.2.2.2.2.2.2.2.2.2.2.2.2.2.2.2.1, e.2.2.2.2.2.2.2.2.2.2.2.2.2.2.2.2.2.2.2.2.2.2.2.2.2.1, e.2.2.2.2.2.2.2.2.2.2.2.2.2.2.2.2.2.2.2.2.2.2.2.2.2.2.1, e.2.2.2.2.2.2.2.2.2.2.2.2.2.2.2.2.2.2.2.2.2.2.2.2.2.2.2.1, e.2.2.2.2.2.2.2.2.2.2.2.2.2.2.2.2.2.2.2.2.2.2.2.2.2.2.2.2.1, e.2.2.2.2.2.2.2.2.2.2.2.2.2.2.2.2.2.2.2.2.2.2.2.2.2.2.2.2.2.1, e.2.2.2.2.2.2.2.2.2.2.2.2.2.2.2.2.2.2.2.2.2.2.2.2.2.2.2.2.2.2.1, e.2.2.2.2.2.2.2.2.2.2.2.2.2.2.2.2.2.2.2.2.2.2.2.2.2.2.2.2.2.2.2.1, e.2.2.2.2.2.2.2.2.2.2.2.2.2.2.2.2.2.2.2.2.2.2.2.2.2.2.2.2.2.2.2.2.1, e.2.2.2.2.2.2.2.2.2.2.2.2.2.2.2.2.2.2.2.2.2.2.2.2.2.2.2.2.2.2.2.2.2.1, e.2.2.2.2.2.2.2.2.2.2.2.2.2.2.2.2.2.2.2.2.2.2.2.2.2.2.2.2.2.2.2.2.2.2.1, e.2.2.2.2.2.2.2.2.2.2.2.2.2.2.2.2.2.2.2.2.2.2.2.2.2.2.2.2.2.2.2.2.2.2.2.1, e.2.2.2.2.2.2.2.2.2.2.2.2.2.2.2.2.2.2.2.2.2.2.2.2.2.2.2.2.2.2.2.2.2.2.2.2.1, ())
def Zi : Nat → Keep × Keep := anF [(5, ⟨[5, 22, 23], [], [1500020], [(0, 38), (1, 25), (21, 25)], [], [], [], [], false⟩, ⟨[5], [], [1500020], [(0, 38), (1, 25)], [], [], [], [], false⟩), (20, ⟨[5, 10, 11, 49, 50], [], [44, 47, 1500020], [(0, 38), (1, 25), (48, 38)], [], [], [], [44, 47], false⟩, ⟨[10, 11], [], [44, 47], [(0, 38), (1, 25)], [], [], [], [44, 47], false⟩), (35, ⟨[10, 11, 80, 81], [], [44, 47], [(1, 25), (79, 38)], [], [], [], [44, 47], false⟩, ⟨[10], [], [44], [], [], [], [], [44], false⟩), (47, ⟨[10, 11, 16, 17, 80, 81, 96, 97], [], [17, 44, 47], [(1, 25), (79, 38), (95, 25)], [], [], [], [44, 47], false⟩, ⟨[10, 11, 80, 81], [], [44, 47], [(1, 25), (79, 38)], [], [], [], [44, 47], false⟩)] [(100030, ([10], []))]
noncomputable def zlq (N : Nat) : GamK := gam (P := Try.prog) [F38_e N]
noncomputable def Zc (N : Nat) : LSpec where
  X := (List (List AV)) × (List (List AV)) × (List (List AV)) × Nat × Nat × Int × Int × Int × Int × Int × RT3 × (List AV) × (List AV)
  Y := ((List (List AV)) × (List (List AV)) × Nat × Nat × Int × Int × (List AV) × (List AV))
  p := fun s => rdS 123 0 [(1, .lst 25), (79, .lst 38), (95, .lst 25), (10, .vs0 44 1), (11, .vs0 47 1), (16, .int .i64), (17, .ptr 17 0), (80, .int .i64), (81, .int .i64), (96, .int .i64), (97, .int .i64)] [(17, .row RK3), (44, .tt), (47, .tt)] s fun ⟨a0, a1, a2, a3, a4, a5, _, a6, a7, a8, a9, _⟩ ⟨a10, a11, a12, _⟩ => (a0, a1, a2, a3, a4, a5, a6, a7, a8, a9, a10, a11, a12)
  st := fun u47 => mkS 123 [(1, (AV.list 25 u47.1 none)), (79, (AV.list 38 u47.2.1 none)), (95, (AV.list 25 u47.2.2.1 none)), (10, (AV.vs 44 0 u47.2.2.2.1 1)), (11, (AV.vs 47 0 u47.2.2.2.2.1 1)), (16, (AV.v (.int .i64 u47.2.2.2.2.2.1))), (17, (AV.ptr 17 0)), (80, (AV.v (.int .i64 u47.2.2.2.2.2.2.1))), (81, (AV.v (.int .i64 u47.2.2.2.2.2.2.2.1))), (96, (AV.v (.int .i64 u47.2.2.2.2.2.2.2.2.1))), (97, (AV.v (.int .i64 u47.2.2.2.2.2.2.2.2.2.1)))] [(17, (Ren3 u47.2.2.2.2.2.2.2.2.2.2.1)), (44, u47.2.2.2.2.2.2.2.2.2.2.2.1), (47, u47.2.2.2.2.2.2.2.2.2.2.2.2)] (Zi 47).1.toks 0
  out := fun y => (.exit 6, mkS 123 [(1, (AV.list 25 y.1 none)), (79, (AV.list 38 y.2.1 none)), (10, (AV.vs 44 0 y.2.2.1 1)), (11, (AV.vs 47 0 y.2.2.2.1 1)), (80, (AV.v (.int .i64 y.2.2.2.2.1))), (81, (AV.v (.int .i64 y.2.2.2.2.2.1)))] [(44, y.2.2.2.2.2.2.1), (47, y.2.2.2.2.2.2.2)] (Zi 47).2.toks 0)
  sp := fun y α k => k (.exit 6, mkS 123 [(1, (AV.list 25 y.1 none)), (79, (AV.list 38 y.2.1 none)), (10, (AV.vs 44 0 y.2.2.1 1)), (11, (AV.vs 47 0 y.2.2.2.1 1)), (80, (AV.v (.int .i64 y.2.2.2.2.1))), (81, (AV.v (.int .i64 y.2.2.2.2.2.1)))] [(44, y.2.2.2.2.2.2.1), (47, y.2.2.2.2.2.2.2)] (Zi 47).2.toks 0)
  spe := fun y α k => rfl
  b := fun u47 α kn ke => (match (decide (u47.2.2.2.2.2.2.2.2.2.1 < u47.2.2.2.2.2.2.2.2.1)) with | true => (if 0 ≤ u47.2.2.2.2.2.2.2.2.2.1 then (match u47.2.2.1[u47.2.2.2.2.2.2.2.2.2.1.toNat]? with | some c21 => (match Rrd0 c21 with | some e22 => (if 0 ≤ u47.2.2.2.2.2.2.2.2.2.1 ∧ u47.2.2.2.2.2.2.2.2.2.1 < (u47.2.2.2.2.1 : Int) then (match u47.2.2.2.2.2.2.2.2.2.2.2.2[((0 + u47.2.2.2.2.2.2.2.2.2.1.toNat) * 1)]? with | some x23 => (match x23 with | .v (.bool b24) => (match (!b24) with | true => (match F38_d N ((jU u47.2.2.2.2.2.2.2.2.2.2.1), e22) with | some y25 => (match y25 with | true => (if 0 ≤ u47.2.2.2.2.2.1 ∧ u47.2.2.2.2.2.1 < (u47.2.2.2.1 : Int) then (if ((0 + u47.2.2.2.2.2.1.toNat) * 1) + 1 ≤ u47.2.2.2.2.2.2.2.2.2.2.2.1.length then (if 0 ≤ u47.2.2.2.2.2.2.2.2.2.1 ∧ u47.2.2.2.2.2.2.2.2.2.1 < (u47.2.2.2.2.1 : Int) then (if ((0 + u47.2.2.2.2.2.2.2.2.2.1.toNat) * 1) + 1 ≤ u47.2.2.2.2.2.2.2.2.2.2.2.2.length then (ke (u47.1, u47.2.1, u47.2.2.2.1, u47.2.2.2.2.1, u47.2.2.2.2.2.2.1, u47.2.2.2.2.2.2.2.1, ((splice u47.2.2.2.2.2.2.2.2.2.2.2.1 ((0 + u47.2.2.2.2.2.1.toNat) * 1) [(AV.v (.int .i64 u47.2.2.2.2.2.2.2.2.2.1))]).map dat0), ((splice u47.2.2.2.2.2.2.2.2.2.2.2.2 ((0 + u47.2.2.2.2.2.2.2.2.2.1.toNat) * 1) [(AV.v (.bool true))]).map dat0))) else none) else none) else none) else none) | false => (kn (u47.1, u47.2.1, u47.2.2.1, u47.2.2.2.1, u47.2.2.2.2.1, u47.2.2.2.2.2.1, u47.2.2.2.2.2.2.1, u47.2.2.2.2.2.2.2.1, u47.2.2.2.2.2.2.2.2.1, (i64 (u47.2.2.2.2.2.2.2.2.2.1 + 1)), u47.2.2.2.2.2.2.2.2.2.2.1, (u47.2.2.2.2.2.2.2.2.2.2.2.1.map dat0), (u47.2.2.2.2.2.2.2.2.2.2.2.2.map dat0)))) | none => none) | false => (kn (u47.1, u47.2.1, u47.2.2.1, u47.2.2.2.1, u47.2.2.2.2.1, u47.2.2.2.2.2.1, u47.2.2.2.2.2.2.1, u47.2.2.2.2.2.2.2.1, u47.2.2.2.2.2.2.2.2.1, (i64 (u47.2.2.2.2.2.2.2.2.2.1 + 1)), u47.2.2.2.2.2.2.2.2.2.2.1, (u47.2.2.2.2.2.2.2.2.2.2.2.1.map dat0), (u47.2.2.2.2.2.2.2.2.2.2.2.2.map dat0)))) | _ => none) | none => none) else none) | none => none) | none => none) else none) | false => (ke (u47.1, u47.2.1, u47.2.2.2.1, u47.2.2.2.2.1, u47.2.2.2.2.2.2.1, u47.2.2.2.2.2.2.2.1, (u47.2.2.2.2.2.2.2.2.2.2.2.1.map dat0), (u47.2.2.2.2.2.2.2.2.2.2.2.2.map dat0))))
noncomputable abbrev zmQ (N : Nat) (x : (List (List AV)) × (List (List AV)) × (List (List AV)) × Nat × Nat × Int × Int × Int × Int × Int × RT3 × (List AV) × (List AV)) : Option (((List (List AV)) × (List (List AV)) × Nat × Nat × Int × Int × (List AV) × (List AV))) := (Zc N).L N x
noncomputable def zY (N : Nat) : LSpec where
  X := (List (List AV)) × (List (List AV)) × Nat × Nat × Int × Int × (List AV) × (List AV)
  Y := (Nat × (List AV))
  p := fun s => rdS 123 0 [(1, .lst 25), (79, .lst 38), (10, .vs0 44 1), (11, .vs0 47 1), (80, .int .i64), (81, .int .i64)] [(44, .tt), (47, .tt)] s fun ⟨a0, a1, a2, a3, a4, a5, _⟩ ⟨a6, a7, _⟩ => (a0, a1, a2, a3, a4, a5, a6, a7)
  st := fun u35 => mkS 123 [(1, (AV.list 25 u35.1 none)), (79, (AV.list 38 u35.2.1 none)), (10, (AV.vs 44 0 u35.2.2.1 1)), (11, (AV.vs 47 0 u35.2.2.2.1 1)), (80, (AV.v (.int .i64 u35.2.2.2.2.1))), (81, (AV.v (.int .i64 u35.2.2.2.2.2.1)))] [(44, u35.2.2.2.2.2.2.1), (47, u35.2.2.2.2.2.2.2)] (Zi 35).1.toks 0
  out := fun y => (.exit 4, mkS 123 [(10, (AV.vs 44 0 y.1 1))] [(44, y.2)] (Zi 35).2.toks 0)
  sp := fun y α k => k (.exit 4, mkS 123 [(10, (AV.vs 44 0 y.1 1))] [(44, y.2)] (Zi 35).2.toks 0)
  spe := fun y α k => rfl
  b := fun u35 α kn ke => (match (decide (u35.2.2.2.2.2.1 < u35.2.2.2.2.1)) with | true => (if 0 ≤ u35.2.2.2.2.2.1 then (match u35.2.1[u35.2.2.2.2.2.1.toNat]? with | some c27 => (match Rrd3 c27 with | some e28 => (match e28.2.1 with | true => (kn (u35.1, u35.2.1, u35.2.2.1, u35.2.2.2.1, u35.2.2.2.2.1, (i64 (u35.2.2.2.2.2.1 + 1)), (u35.2.2.2.2.2.2.1.map dat0), (u35.2.2.2.2.2.2.2.map dat0))) | false => (if 0 ≤ u35.2.2.2.2.2.1 ∧ u35.2.2.2.2.2.1 < (u35.2.2.1 : Int) then (match u35.2.2.2.2.2.2.1[((0 + u35.2.2.2.2.2.1.toNat) * 1)]? with | some x29 => (match x29 with | .v (.int q31 n30) => (if q31 = .i64 then (match (decide (n30 ≥ 0)) with | true => (kn (u35.1, u35.2.1, u35.2.2.1, u35.2.2.2.1, u35.2.2.2.2.1, (i64 (u35.2.2.2.2.2.1 + 1)), (u35.2.2.2.2.2.2.1.map dat0), (u35.2.2.2.2.2.2.2.map dat0))) | false => (match zmQ N (u35.1, u35.2.1, u35.1, u35.2.2.1, u35.2.2.2.1, u35.2.2.2.2.2.1, u35.2.2.2.2.1, u35.2.2.2.2.2.1, (u35.1.length : Int), 0, e28, (u35.2.2.2.2.2.2.1.map dat0), (u35.2.2.2.2.2.2.2.map dat0)) with | some y32 => (kn (y32.1, y32.2.1, y32.2.2.1, y32.2.2.2.1, y32.2.2.2.2.1, (i64 (y32.2.2.2.2.2.1 + 1)), (y32.2.2.2.2.2.2.1.map dat0), (y32.2.2.2.2.2.2.2.map dat0))) | none => none)) else none) | _ => none) | none => none) else none)) | none => none) | none => none) else none) | false => (ke (u35.2.2.1, (u35.2.2.2.2.2.2.1.map dat0))))
noncomputable abbrev zmO (N : Nat) (x : (List (List AV)) × (List (List AV)) × Nat × Nat × Int × Int × (List AV) × (List AV)) : Option ((Nat × (List AV))) := (zY N).L N x
noncomputable def zW (N : Nat) : LSpec where
  X := (List (List AV)) × (List (List AV)) × (List (List AV)) × Nat × Nat × Int × Int × (List AV) × (List AV) × (List (List AV))
  Y := ((List (List AV)) × (List (List AV)) × Nat × Nat × (List AV) × (List AV))
  p := fun s => rdS 123 0 [(0, .lst 38), (1, .lst 25), (48, .lst 38), (5, .mref 1500020), (10, .vs0 44 1), (11, .vs0 47 1), (49, .int .i64), (50, .int .i64)] [(44, .tt), (47, .tt), (1500020, .mp (MK.mk true false [.str, .str, .str, .str, .int .i64, .int .i64, .int .i64, .int .i64, .int .i64] [.int .i64]))] s fun ⟨a0, a1, a2, _, a3, a4, a5, a6, _⟩ ⟨a7, a8, a9, _⟩ => (a0, a1, a2, a3, a4, a5, a6, a7, a8, a9)
  st := fun u20 => mkS 123 [(0, (AV.list 38 u20.1 none)), (1, (AV.list 25 u20.2.1 none)), (48, (AV.list 38 u20.2.2.1 none)), (5, (AV.mref 1500020)), (10, (AV.vs 44 0 u20.2.2.2.1 1)), (11, (AV.vs 47 0 u20.2.2.2.2.1 1)), (49, (AV.v (.int .i64 u20.2.2.2.2.2.1))), (50, (AV.v (.int .i64 u20.2.2.2.2.2.2.1)))] [(44, u20.2.2.2.2.2.2.2.1), (47, u20.2.2.2.2.2.2.2.2.1), (1500020, [(AV.mp (MK.mk true false [.str, .str, .str, .str, .int .i64, .int .i64, .int .i64, .int .i64, .int .i64] [.int .i64]) u20.2.2.2.2.2.2.2.2.2)])] (Zi 20).1.toks 0
  out := fun y => (.exit 2, mkS 123 [(0, (AV.list 38 y.1 none)), (1, (AV.list 25 y.2.1 none)), (10, (AV.vs 44 0 y.2.2.1 1)), (11, (AV.vs 47 0 y.2.2.2.1 1))] [(44, y.2.2.2.2.1), (47, y.2.2.2.2.2)] (Zi 20).2.toks 0)
  sp := fun y α k => k (.exit 2, mkS 123 [(0, (AV.list 38 y.1 none)), (1, (AV.list 25 y.2.1 none)), (10, (AV.vs 44 0 y.2.2.1 1)), (11, (AV.vs 47 0 y.2.2.2.1 1))] [(44, y.2.2.2.2.1), (47, y.2.2.2.2.2)] (Zi 20).2.toks 0)
  spe := fun y α k => rfl
  b := fun u20 α kn ke => (match (decide (u20.2.2.2.2.2.2.1 < u20.2.2.2.2.2.1)) with | true => (if 0 ≤ u20.2.2.2.2.2.2.1 then (match u20.2.2.1[u20.2.2.2.2.2.2.1.toNat]? with | some c8 => (match Rrd3 c8 with | some e9 => (match e9.2.1 with | true => (if 0 ≤ u20.2.2.2.2.2.2.1 ∧ u20.2.2.2.2.2.2.1 < (u20.2.2.2.1 : Int) then (if ((0 + u20.2.2.2.2.2.2.1.toNat) * 1) + 1 ≤ u20.2.2.2.2.2.2.2.1.length then (kn (u20.1, u20.2.1, u20.2.2.1, u20.2.2.2.1, u20.2.2.2.2.1, u20.2.2.2.2.2.1, (i64 (u20.2.2.2.2.2.2.1 + 1)), ((splice u20.2.2.2.2.2.2.2.1 ((0 + u20.2.2.2.2.2.2.1.toNat) * 1) [(AV.v (.int .i64 (-1)))]).map dat0), (u20.2.2.2.2.2.2.2.2.1.map dat0), u20.2.2.2.2.2.2.2.2.2)) else none) else none) | false => (match (!((jH (Ren1 (j7 e9)) u20.2.2.2.2.2.2.2.2.2).isSome)) with | true => (if 0 ≤ u20.2.2.2.2.2.2.1 ∧ u20.2.2.2.2.2.2.1 < (u20.2.2.2.1 : Int) then (if ((0 + u20.2.2.2.2.2.2.1.toNat) * 1) + 1 ≤ u20.2.2.2.2.2.2.2.1.length then (kn (u20.1, u20.2.1, u20.2.2.1, u20.2.2.2.1, u20.2.2.2.2.1, u20.2.2.2.2.2.1, (i64 (u20.2.2.2.2.2.2.1 + 1)), ((splice u20.2.2.2.2.2.2.2.1 ((0 + u20.2.2.2.2.2.2.1.toNat) * 1) [(AV.v (.int .i64 (-1)))]).map dat0), (u20.2.2.2.2.2.2.2.2.1.map dat0), u20.2.2.2.2.2.2.2.2.2)) else none) else none) | false => (if 0 ≤ u20.2.2.2.2.2.2.1 ∧ u20.2.2.2.2.2.2.1 < (u20.2.2.2.1 : Int) then (if ((0 + u20.2.2.2.2.2.2.1.toNat) * 1) + 1 ≤ u20.2.2.2.2.2.2.2.1.length then (if 0 ≤ ((jH (Ren1 (j7 e9)) u20.2.2.2.2.2.2.2.2.2).getD 0) ∧ ((jH (Ren1 (j7 e9)) u20.2.2.2.2.2.2.2.2.2).getD 0) < (u20.2.2.2.2.1 : Int) then (if ((0 + ((jH (Ren1 (j7 e9)) u20.2.2.2.2.2.2.2.2.2).getD 0).toNat) * 1) + 1 ≤ u20.2.2.2.2.2.2.2.2.1.length then (kn (u20.1, u20.2.1, u20.2.2.1, u20.2.2.2.1, u20.2.2.2.2.1, u20.2.2.2.2.2.1, (i64 (u20.2.2.2.2.2.2.1 + 1)), ((splice u20.2.2.2.2.2.2.2.1 ((0 + u20.2.2.2.2.2.2.1.toNat) * 1) [(AV.v (.int .i64 ((jH (Ren1 (j7 e9)) u20.2.2.2.2.2.2.2.2.2).getD 0)))]).map dat0), ((splice u20.2.2.2.2.2.2.2.2.1 ((0 + ((jH (Ren1 (j7 e9)) u20.2.2.2.2.2.2.2.2.2).getD 0).toNat) * 1) [(AV.v (.bool true))]).map dat0), u20.2.2.2.2.2.2.2.2.2)) else none) else none) else none) else none))) | none => none) | none => none) else none) | false => (ke (u20.1, u20.2.1, u20.2.2.2.1, u20.2.2.2.2.1, (u20.2.2.2.2.2.2.2.1.map dat0), (u20.2.2.2.2.2.2.2.2.1.map dat0))))
noncomputable abbrev zjN (N : Nat) (x : (List (List AV)) × (List (List AV)) × (List (List AV)) × Nat × Nat × Int × Int × (List AV) × (List AV) × (List (List AV))) : Option (((List (List AV)) × (List (List AV)) × Nat × Nat × (List AV) × (List AV))) := (zW N).L N x
noncomputable def jv (N : Nat) : LSpec where
  X := (List (List AV)) × (List (List AV)) × (List (List AV)) × Int × Int × (List (List AV))
  Y := ((List (List AV)) × (List (List AV)) × (List (List AV)))
  p := fun s => rdS 123 0 [(0, .lst 38), (1, .lst 25), (21, .lst 25), (5, .mref 1500020), (22, .int .i64), (23, .int .i64)] [(1500020, .mp (MK.mk true false [.str, .str, .str, .str, .int .i64, .int .i64, .int .i64, .int .i64, .int .i64] [.int .i64]))] s fun ⟨a0, a1, a2, _, a3, a4, _⟩ ⟨a5, _⟩ => (a0, a1, a2, a3, a4, a5)
  st := fun u5 => mkS 123 [(0, (AV.list 38 u5.1 none)), (1, (AV.list 25 u5.2.1 none)), (21, (AV.list 25 u5.2.2.1 none)), (5, (AV.mref 1500020)), (22, (AV.v (.int .i64 u5.2.2.2.1))), (23, (AV.v (.int .i64 u5.2.2.2.2.1)))] [(1500020, [(AV.mp (MK.mk true false [.str, .str, .str, .str, .int .i64, .int .i64, .int .i64, .int .i64, .int .i64] [.int .i64]) u5.2.2.2.2.2)])] (Zi 5).1.toks 0
  out := fun y => (.exit 0, mkS 123 [(0, (AV.list 38 y.1 none)), (1, (AV.list 25 y.2.1 none)), (5, (AV.mref 1500020))] [(1500020, [(AV.mp (MK.mk true false [.str, .str, .str, .str, .int .i64, .int .i64, .int .i64, .int .i64, .int .i64] [.int .i64]) y.2.2)])] (Zi 5).2.toks 0)
  sp := fun y α k => k (.exit 0, mkS 123 [(0, (AV.list 38 y.1 none)), (1, (AV.list 25 y.2.1 none)), (5, (AV.mref 1500020))] [(1500020, [(AV.mp (MK.mk true false [.str, .str, .str, .str, .int .i64, .int .i64, .int .i64, .int .i64, .int .i64] [.int .i64]) y.2.2)])] (Zi 5).2.toks 0)
  spe := fun y α k => rfl
  b := fun u5 α kn ke => (match (decide (u5.2.2.2.2.1 < u5.2.2.2.1)) with | true => (if 0 ≤ u5.2.2.2.2.1 then (match u5.2.2.1[u5.2.2.2.2.1.toNat]? with | some c3 => (match Rrd0 c3 with | some e4 => (match (!((jH (Ren1 (zf0 e4)) u5.2.2.2.2.2).isSome)) with | true => (kn (u5.1, u5.2.1, u5.2.2.1, u5.2.2.2.1, (i64 (u5.2.2.2.2.1 + 1)), (Jd (Ren1 (zf0 e4)) (Ren5 (e4.1, e4.2.1, e4.2.2.1, e4.2.2.2.1, e4.2.2.2.2.1, e4.2.2.2.2.2.1, e4.2.2.2.2.2.2.1, e4.2.2.2.2.2.2.2.1, e4.2.2.2.2.2.2.2.2.1, u5.2.2.2.2.1, ())) u5.2.2.2.2.2))) | false => (kn (u5.1, u5.2.1, u5.2.2.1, u5.2.2.2.1, (i64 (u5.2.2.2.2.1 + 1)), u5.2.2.2.2.2))) | none => none) | none => none) else none) | false => (ke (u5.1, u5.2.1, u5.2.2.2.2.2)))
noncomputable abbrev F19_d5 (N : Nat) (x : (List (List AV)) × (List (List AV)) × (List (List AV)) × Int × Int × (List (List AV))) : Option (((List (List AV)) × (List (List AV)) × (List (List AV)))) := (jv N).L N x
noncomputable def zif (N : Nat) : FSpec where
  X := (List (List AV)) × (List (List AV))
  Y := (List (List AV))
  ash := [[some 38], [some 25]]
  bsh := []
  S := ⟨[[some 2000001]], [], [], [], []⟩
  bm := false
  pat := fun a b => rdA [.lst 38, .lst 25] [] a b fun ⟨a0, a1, _⟩ _ => (a0, a1)
  args := fun x => [(AV.list 38 x.1 none), (AV.list 25 x.2 none)]
  bs := fun x => []
  ret := fun y => ⟨(AV.list 1 y (some 2560000000)), [], none, [], [2560000000], []⟩
  t := fun x α k => (match F19_d5 N (x.1, x.2, x.2, (x.2.length : Int), 0, ([] : List (List AV))) with | some y5 => (if 0 ≤ (y5.1.length : Int) ∧ (y5.1.length : Int) ≤ (y5.1.length : Int) ∧ (y5.1.length : Int).toNat * 8 ≤ zl then (if 0 ≤ (y5.2.1.length : Int) ∧ (y5.2.1.length : Int) ≤ (y5.2.1.length : Int) ∧ (y5.2.1.length : Int).toNat * 1 ≤ zl then (match zjN N (y5.1, y5.2.1, y5.1, ((y5.1.length : Int).toNat), ((y5.2.1.length : Int).toNat), (y5.1.length : Int), 0, ((List.replicate (y5.1.length : Int).toNat (AV.v (.int .i64 0))).map dat0), ((List.replicate (y5.2.1.length : Int).toNat (AV.v (.bool false))).map dat0), y5.2.2) with | some y10 => (match zmO N (y10.2.1, y10.1, y10.2.2.1, y10.2.2.2.1, (y10.1.length : Int), 0, (y10.2.2.2.2.1.map dat0), (y10.2.2.2.2.2.map dat0)) with | some y33 => (if y33.1 * 1 ≤ y33.2.length then (k (zO (y33.2.take (y33.1 * 1)) 1 y33.1)) else none) | none => none) | none => none) else none) else none) | none => none)
noncomputable abbrev F19_d (N : Nat) (x : (List (List AV)) × (List (List AV))) : Option ((List (List AV))) := (zif N).d x
noncomputable def jP (N : Nat) : List (Nat × LSpec) := [(5, jv N), (20, zW N), (35, zY N), (47, Zc N)]
noncomputable def Jm : Code := Try.f19.body.getD .skip
theorem zjz (N : Nat) : Par (Zc N).b := by
  intro x α β kn ke kn' ke' r r' h h1 h2
  revert h
  dsimp only [Zc]
  (repeat' (first | (with_reducible refine zg ?_ ?_) | (with_reducible refine zc ?_ ?_) | split)) <;> intro h <;> first | exact h1 _ h | exact h2 _ h | (cases h; done)
theorem zhO (N : Nat) : BdOk (zt Try.prog) (zlq N) Zi N (jP N) 47 Jm (Zc N) := fun x α kn ke => by kernel_rfl
theorem zc1 (N : Nat) : LpOk Try.prog Zi N (jP N) 47 (zd 47 Jm) :=
  zE (zf Try.prog) (zk _) zm Zi N (jP N) 47 Jm (l := []) (by kernel_rfl) (by kernel_rfl) an (Zc N) rfl (fun s x hc h => by dsimp only [Zc] at h; exact zH hc h (fun _ _ => rfl) rfl rfl) (fun _ => rfl) (zhO N) (zjz N)
theorem zkp (N : Nat) : Par (zY N).b := by
  intro x α β kn ke kn' ke' r r' h h1 h2
  revert h
  dsimp only [zY]
  (repeat' (first | (with_reducible refine zg ?_ ?_) | (with_reducible refine zc ?_ ?_) | split)) <;> intro h <;> first | exact h1 _ h | exact h2 _ h | (cases h; done)
theorem ziM (N : Nat) : BdOk (zt Try.prog) (zlq N) Zi N (jP N) 35 Jm (zY N) := fun x α kn ke => by kernel_rfl
theorem zi9 (N : Nat) : LpOk Try.prog Zi N (jP N) 35 (zd 35 Jm) :=
  zE (zf Try.prog) (zk _) zm Zi N (jP N) 35 Jm (l := [(47, zd 47 Jm)]) (by kernel_rfl) (by kernel_rfl) (al (zc1 N) an) (zY N) rfl (fun s x hc h => by dsimp only [zY] at h; exact zH hc h (fun _ _ => rfl) rfl rfl) (fun _ => rfl) (ziM N) (zkp N)
theorem zlX (N : Nat) : Par (zW N).b := by
  intro x α β kn ke kn' ke' r r' h h1 h2
  revert h
  dsimp only [zW]
  (repeat' (first | (with_reducible refine zg ?_ ?_) | (with_reducible refine zc ?_ ?_) | split)) <;> intro h <;> first | exact h1 _ h | exact h2 _ h | (cases h; done)
theorem zh2 (N : Nat) : BdOk (zt Try.prog) (zlq N) Zi N (jP N) 20 Jm (zW N) := fun x α kn ke => by kernel_rfl
theorem ziq (N : Nat) : LpOk Try.prog Zi N (jP N) 20 (zd 20 Jm) :=
  zE (zf Try.prog) (zk _) zm Zi N (jP N) 20 Jm (l := []) (by kernel_rfl) (by kernel_rfl) an (zW N) rfl (fun s x hc h => by dsimp only [zW] at h; exact zH hc h (fun _ _ => rfl) rfl rfl) (fun _ => rfl) (zh2 N) (zlX N)
theorem F19_par5 (N : Nat) : Par (jv N).b := by
  intro x α β kn ke kn' ke' r r' h h1 h2
  revert h
  dsimp only [jv]
  (repeat' (first | (with_reducible refine zg ?_ ?_) | (with_reducible refine zc ?_ ?_) | split)) <;> intro h <;> first | exact h1 _ h | exact h2 _ h | (cases h; done)
theorem zlo (N : Nat) : BdOk (zt Try.prog) (zlq N) Zi N (jP N) 5 Jm (jv N) := fun x α kn ke => by kernel_rfl
theorem zkQ (N : Nat) : LpOk Try.prog Zi N (jP N) 5 (zd 5 Jm) :=
  zE (zf Try.prog) (zk _) zm Zi N (jP N) 5 Jm (l := []) (by kernel_rfl) (by kernel_rfl) an (jv N) rfl (fun s x hc h => by dsimp only [jv] at h; exact zH hc h (fun _ _ => rfl) rfl rfl) (fun _ => rfl) (zlo N) (F19_par5 N)
theorem F19_parF (N : Nat) : ParF (zif N).t := by
  intro x α β k k' r r' h h1
  revert h
  dsimp only [zif]
  (repeat' (first | (with_reducible refine zg ?_ ?_) | (with_reducible refine zc ?_ ?_) | split)) <;> intro h <;> first | exact h1 _ h | (cases h; done)
theorem F19_text (N : Nat) : TxOk (zt Try.prog) (zlq N) Zi (lam N (jP N)) Try.f19 (zif N) := fun x => by kernel_rfl
noncomputable def F19_e (N : Nat) : Ent Try.prog := zB (zf Try.prog) (zk _) zm 19 Try.f19 Try.func19 rfl Zi (lam N (jP N)) (zp (l := [(5, zd 5 Jm), (20, zd 20 Jm), (35, zd 35 Jm), (47, zd 47 Jm)]) (al (zkQ N) (al (ziq N) (al (zi9 N) (al (zc1 N) an)))) (by kernel_rfl)) (zif N) (fun _ => ⟨rfl, rfl⟩) (F19_text N) (fun _ _ _ h => zA h (fun _ _ => rfl) (fun _ _ => rfl)) (F19_parF N)
def Jz : Nat → Keep × Keep := anL [(5, ⟨[3, 8, 9], [], [6], [], [], [], [], [6], false⟩, ⟨[3], [], [6], [], [], [], [], [6], false⟩)]
noncomputable def F30a_g (N : Nat) : GamK := gam (P := Try.prog) [F48a_e N, F29_e N]
noncomputable def ZE (N : Nat) : LSpec where
  X := Nat × Int × Int × (List AV)
  Y := (Nat × (List AV))
  p := fun s => rdS 24 0 [(3, .vs0 6 38), (8, .int .i64), (9, .int .i64)] [(6, .tt)] s fun ⟨a0, a1, a2, _⟩ ⟨a3, _⟩ => (a0, a1, a2, a3)
  st := fun u5 => mkS 24 [(3, (AV.vs 6 0 u5.1 38)), (8, (AV.v (.int .i64 u5.2.1))), (9, (AV.v (.int .i64 u5.2.2.1)))] [(6, u5.2.2.2)] (Jz 5).1.toks 0
  out := fun y => (.exit 0, mkS 24 [(3, (AV.vs 6 0 y.1 38))] [(6, y.2)] (Jz 5).2.toks 0)
  sp := fun y α k => k (.exit 0, mkS 24 [(3, (AV.vs 6 0 y.1 38))] [(6, y.2)] (Jz 5).2.toks 0)
  spe := fun y α k => rfl
  b := fun u5 α kn ke => (match (decide (u5.2.2.1 < u5.2.1)) with | true => (if 0 ≤ u5.2.2.1 ∧ u5.2.2.1 < (u5.1 : Int) then (match Rrd0 (u5.2.2.2.drop (((0 + u5.2.2.1.toNat) * 38) + 12)) with | some e4 => (match zge N e4 with | some y5 => (if 0 ≤ u5.2.2.1 ∧ u5.2.2.1 < (u5.1 : Int) then (if (((0 + u5.2.2.1.toNat) * 38) + 12) + 25 ≤ u5.2.2.2.length then (kn (u5.1, u5.2.1, (i64 (u5.2.2.1 + 1)), ((splice u5.2.2.2 (((0 + u5.2.2.1.toNat) * 38) + 12) (Ren0 y5)).map dat0))) else none) else none) | none => none) | none => none) else none) | false => (ke (u5.1, (u5.2.2.2.map dat0))))
noncomputable abbrev zmv (N : Nat) (x : Nat × Int × Int × (List AV)) : Option ((Nat × (List AV))) := (ZE N).L N x
noncomputable def zc0 (N : Nat) : FSpec where
  X := (List (List AV))
  Y := Nat × (List AV)
  ash := [[some 38]]
  bsh := []
  S := ⟨[[some 1000038]], [], [], [], []⟩
  bm := true
  pat := fun a b => rdA [.lst 38] [] a b fun ⟨a0, _⟩ _ => a0
  args := fun x => [(AV.list 38 x none)]
  bs := fun x => []
  ret := fun y => ⟨(AV.vs 0 0 y.1 38), [], some y.2, [], [], []⟩
  t := fun x α k => (match zj7 N x with | some y1 => (match zmv N (y1.1, ((y1.1 : Nat) : Int), 0, ((y1.2.map dat0).map dat0)) with | some y6 => (k (y6.1, (y6.2.map dat0))) | none => none) | none => none)
noncomputable abbrev zhd (N : Nat) (x : (List (List AV))) : Option (Nat × (List AV)) := (zc0 N).d x
noncomputable def zbv (N : Nat) : List (Nat × LSpec) := [(5, ZE N)]
noncomputable def zg0 : Code := Try.f30.body.getD .skip
theorem zjA (N : Nat) : Par (ZE N).b := by
  intro x α β kn ke kn' ke' r r' h h1 h2
  revert h
  dsimp only [ZE]
  (repeat' (first | (with_reducible refine zg ?_ ?_) | (with_reducible refine zc ?_ ?_) | split)) <;> intro h <;> first | exact h1 _ h | exact h2 _ h | (cases h; done)
theorem zjo (N : Nat) : BdOk (tabB Try.prog [6]) (F30a_g N) Jz N (zbv N) 5 zg0 (ZE N) := fun x α kn ke => by kernel_rfl
theorem zh8 (N : Nat) : LpOk Try.prog Jz N (zbv N) 5 (zd 5 zg0) :=
  zE (zL Try.prog [6]) (zk _) zm Jz N (zbv N) 5 zg0 (l := []) (by kernel_rfl) (by kernel_rfl) an (ZE N) rfl (fun s x hc h => by dsimp only [ZE] at h; exact zH hc h (fun _ _ => rfl) rfl rfl) (fun _ => rfl) (zjo N) (zjA N)
theorem zkD (N : Nat) : ParF (zc0 N).t := by
  intro x α β k k' r r' h h1
  revert h
  dsimp only [zc0]
  (repeat' (first | (with_reducible refine zg ?_ ?_) | (with_reducible refine zc ?_ ?_) | split)) <;> intro h <;> first | exact h1 _ h | (cases h; done)
theorem zlA (N : Nat) : TxOk (tabB Try.prog [6]) (F30a_g N) Jz (lam N (zbv N)) Try.f30 (zc0 N) := fun x => by kernel_rfl
noncomputable def F30a_e (N : Nat) : Ent Try.prog := zB (zL Try.prog [6]) (zk _) zm 30 Try.f30 Try.func30 rfl Jz (lam N (zbv N)) (zp (l := [(5, zd 5 zg0)]) (al (zh8 N) an) (by kernel_rfl)) (zc0 N) (fun _ => ⟨rfl, rfl⟩) (zlA N) (fun _ _ _ h => zA h (fun _ _ => rfl) (fun _ _ => rfl)) (zkD N)
abbrev RK6 : List Ck := [.int .i64, .int .i64, .int .i64, .int .i64, .int .i64, .str, .str, .str, .str, .int .i64, .int .i64, .int .i64, .int .i64, .int .i64, .sl 9, .int .i64, .int .i64, .int .i64, .int .i64, .int .i64, .int .i64, .int .i64, .int .i64, .int .i64, .int .i64, .int .i64, .int .i64, .int .i64, .int .i64, .int .i64]
abbrev RT6 : Type := Int × Int × Int × Int × Int × ByteArray × ByteArray × ByteArray × ByteArray × Int × Int × Int × Int × Int × (List (List AV)) × Int × Int × Int × Int × Int × Int × Int × Int × Int × Int × Int × Int × Int × Int × Int × Unit
def Rrd6 (c : List AV) : Option RT6 := dec RK6 c
def Ren6 (e : RT6) : List AV := enc RK6 e
theorem Rrd6_en (e : RT6) : Rrd6 (Ren6 e) = some e := zak (ks := RK6) e rfl
def F28_an : Nat → Keep × Keep := anL []
noncomputable def F28_g (N : Nat) : GamK := gam (P := Try.prog) [F29_e N]
noncomputable def zh5 (N : Nat) : FSpec where
  X := Int × RT3 × Bool × Int × (List (List AV)) × Int
  Y := Bool × Int × (List (List AV)) × Int
  ash := [[none], [none, none, none, none, none, none, none, none, none, none, none, none, none, none, none, none, none, none, none, none, none, some 9, none, none, none, none, none, none, none, none, none, none, none, none, none, none, none, none], [none], [none], [none], [none]]
  bsh := [[none], [none], [some 2000030], [none]]
  S := ⟨[], [[none], [none], [some 2000030], [none]], [], [6400524288], []⟩
  bm := false
  pat := fun a b => rdA [.int .i64, .agg RK3, .ptr 0 0, .ptr 1 0, .ptr 2 0, .ptr 3 0] [.cells [.bool], .cells [.int .i64], .cells [.tok 30 6400524288], .cells [.int .i64]] a b fun ⟨a0, a1, _, _, _, _, _⟩ ⟨⟨a2, _⟩, ⟨a3, _⟩, ⟨a4, _⟩, ⟨a5, _⟩, _⟩ => (a0, a1, a2, a3, a4, a5)
  args := fun x => [(AV.v (.int .i64 x.1)), (AV.agg (Ren3 x.2.1)), (AV.ptr 0 0), (AV.ptr 1 0), (AV.ptr 2 0), (AV.ptr 3 0)]
  bs := fun x => [[(AV.v (.bool x.2.2.1))], [(AV.v (.int .i64 x.2.2.2.1))], [(AV.list 30 x.2.2.2.2.1 (some 6400524288))], [(AV.v (.int .i64 x.2.2.2.2.2))]]
  ret := fun y => ⟨(AV.tup []), [[(AV.v (.bool y.1))], [(AV.v (.int .i64 y.2.1))], [(AV.list 30 y.2.2.1 (some 6400524288))], [(AV.v (.int .i64 y.2.2.2))]], none, [6400524288], [6400524288], []⟩
  t := fun x α k => (match x.2.2.1 with | true => (match zge N (jU x.2.1) with | some y1 => (if (x.2.2.2.2.1.length + [(Ren6 (x.2.2.2.1, x.1, x.2.1.1, x.2.2.2.2.2, x.2.1.2.2.2.2.2.2.2.2.2.2.2.1, y1.1, y1.2.1, y1.2.2.1, y1.2.2.2.1, y1.2.2.2.2.1, y1.2.2.2.2.2.1, y1.2.2.2.2.2.2.1, y1.2.2.2.2.2.2.2.1, y1.2.2.2.2.2.2.2.2.1, y1.2.2.2.2.2.2.2.2.2.1, y1.2.2.2.2.2.2.2.2.2.2.1, y1.2.2.2.2.2.2.2.2.2.2.2.1, y1.2.2.2.2.2.2.2.2.2.2.2.2.1, y1.2.2.2.2.2.2.2.2.2.2.2.2.2.1, y1.2.2.2.2.2.2.2.2.2.2.2.2.2.2.1, y1.2.2.2.2.2.2.2.2.2.2.2.2.2.2.2.1, y1.2.2.2.2.2.2.2.2.2.2.2.2.2.2.2.2.1, y1.2.2.2.2.2.2.2.2.2.2.2.2.2.2.2.2.2.1, y1.2.2.2.2.2.2.2.2.2.2.2.2.2.2.2.2.2.2.1, y1.2.2.2.2.2.2.2.2.2.2.2.2.2.2.2.2.2.2.2.1, y1.2.2.2.2.2.2.2.2.2.2.2.2.2.2.2.2.2.2.2.2.1, y1.2.2.2.2.2.2.2.2.2.2.2.2.2.2.2.2.2.2.2.2.2.1, y1.2.2.2.2.2.2.2.2.2.2.2.2.2.2.2.2.2.2.2.2.2.2.1, y1.2.2.2.2.2.2.2.2.2.2.2.2.2.2.2.2.2.2.2.2.2.2.2.1, y1.2.2.2.2.2.2.2.2.2.2.2.2.2.2.2.2.2.2.2.2.2.2.2.2.1, ()))].length) * 288 ≤ zl then (k (true, (i64 (x.2.2.2.1 + 1)), (x.2.2.2.2.1 ++ [(Ren6 (x.2.2.2.1, x.1, x.2.1.1, x.2.2.2.2.2, x.2.1.2.2.2.2.2.2.2.2.2.2.2.1, y1.1, y1.2.1, y1.2.2.1, y1.2.2.2.1, y1.2.2.2.2.1, y1.2.2.2.2.2.1, y1.2.2.2.2.2.2.1, y1.2.2.2.2.2.2.2.1, y1.2.2.2.2.2.2.2.2.1, y1.2.2.2.2.2.2.2.2.2.1, y1.2.2.2.2.2.2.2.2.2.2.1, y1.2.2.2.2.2.2.2.2.2.2.2.1, y1.2.2.2.2.2.2.2.2.2.2.2.2.1, y1.2.2.2.2.2.2.2.2.2.2.2.2.2.1, y1.2.2.2.2.2.2.2.2.2.2.2.2.2.2.1, y1.2.2.2.2.2.2.2.2.2.2.2.2.2.2.2.1, y1.2.2.2.2.2.2.2.2.2.2.2.2.2.2.2.2.1, y1.2.2.2.2.2.2.2.2.2.2.2.2.2.2.2.2.2.1, y1.2.2.2.2.2.2.2.2.2.2.2.2.2.2.2.2.2.2.1, y1.2.2.2.2.2.2.2.2.2.2.2.2.2.2.2.2.2.2.2.1, y1.2.2.2.2.2.2.2.2.2.2.2.2.2.2.2.2.2.2.2.2.1, y1.2.2.2.2.2.2.2.2.2.2.2.2.2.2.2.2.2.2.2.2.2.1, y1.2.2.2.2.2.2.2.2.2.2.2.2.2.2.2.2.2.2.2.2.2.2.1, y1.2.2.2.2.2.2.2.2.2.2.2.2.2.2.2.2.2.2.2.2.2.2.2.1, y1.2.2.2.2.2.2.2.2.2.2.2.2.2.2.2.2.2.2.2.2.2.2.2.2.1, ()))]), x.2.2.2.2.2)) else none) | none => none) | false => (match zge N (jU x.2.1) with | some y2 => (if (x.2.2.2.2.1.length + [(Ren6 (x.2.2.2.1, x.1, x.2.1.1, x.2.2.2.2.2, x.2.1.2.2.2.2.2.2.2.2.2.2.2.1, y2.1, y2.2.1, y2.2.2.1, y2.2.2.2.1, y2.2.2.2.2.1, y2.2.2.2.2.2.1, y2.2.2.2.2.2.2.1, y2.2.2.2.2.2.2.2.1, y2.2.2.2.2.2.2.2.2.1, y2.2.2.2.2.2.2.2.2.2.1, y2.2.2.2.2.2.2.2.2.2.2.1, y2.2.2.2.2.2.2.2.2.2.2.2.1, y2.2.2.2.2.2.2.2.2.2.2.2.2.1, y2.2.2.2.2.2.2.2.2.2.2.2.2.2.1, y2.2.2.2.2.2.2.2.2.2.2.2.2.2.2.1, y2.2.2.2.2.2.2.2.2.2.2.2.2.2.2.2.1, y2.2.2.2.2.2.2.2.2.2.2.2.2.2.2.2.2.1, y2.2.2.2.2.2.2.2.2.2.2.2.2.2.2.2.2.2.1, y2.2.2.2.2.2.2.2.2.2.2.2.2.2.2.2.2.2.2.1, y2.2.2.2.2.2.2.2.2.2.2.2.2.2.2.2.2.2.2.2.1, y2.2.2.2.2.2.2.2.2.2.2.2.2.2.2.2.2.2.2.2.2.1, y2.2.2.2.2.2.2.2.2.2.2.2.2.2.2.2.2.2.2.2.2.2.1, y2.2.2.2.2.2.2.2.2.2.2.2.2.2.2.2.2.2.2.2.2.2.2.1, y2.2.2.2.2.2.2.2.2.2.2.2.2.2.2.2.2.2.2.2.2.2.2.2.1, y2.2.2.2.2.2.2.2.2.2.2.2.2.2.2.2.2.2.2.2.2.2.2.2.2.1, ()))].length) * 288 ≤ zl then (k ((decide (x.2.2.2.1 ≥ 1000)), (i64 (x.2.2.2.1 + 1)), (x.2.2.2.2.1 ++ [(Ren6 (x.2.2.2.1, x.1, x.2.1.1, x.2.2.2.2.2, x.2.1.2.2.2.2.2.2.2.2.2.2.2.1, y2.1, y2.2.1, y2.2.2.1, y2.2.2.2.1, y2.2.2.2.2.1, y2.2.2.2.2.2.1, y2.2.2.2.2.2.2.1, y2.2.2.2.2.2.2.2.1, y2.2.2.2.2.2.2.2.2.1, y2.2.2.2.2.2.2.2.2.2.1, y2.2.2.2.2.2.2.2.2.2.2.1, y2.2.2.2.2.2.2.2.2.2.2.2.1, y2.2.2.2.2.2.2.2.2.2.2.2.2.1, y2.2.2.2.2.2.2.2.2.2.2.2.2.2.1, y2.2.2.2.2.2.2.2.2.2.2.2.2.2.2.1, y2.2.2.2.2.2.2.2.2.2.2.2.2.2.2.2.1, y2.2.2.2.2.2.2.2.2.2.2.2.2.2.2.2.2.1, y2.2.2.2.2.2.2.2.2.2.2.2.2.2.2.2.2.2.1, y2.2.2.2.2.2.2.2.2.2.2.2.2.2.2.2.2.2.2.1, y2.2.2.2.2.2.2.2.2.2.2.2.2.2.2.2.2.2.2.2.1, y2.2.2.2.2.2.2.2.2.2.2.2.2.2.2.2.2.2.2.2.2.1, y2.2.2.2.2.2.2.2.2.2.2.2.2.2.2.2.2.2.2.2.2.2.1, y2.2.2.2.2.2.2.2.2.2.2.2.2.2.2.2.2.2.2.2.2.2.2.1, y2.2.2.2.2.2.2.2.2.2.2.2.2.2.2.2.2.2.2.2.2.2.2.2.1, y2.2.2.2.2.2.2.2.2.2.2.2.2.2.2.2.2.2.2.2.2.2.2.2.2.1, ()))]), x.2.2.2.2.2)) else none) | none => none))
noncomputable abbrev zhw (N : Nat) (x : Int × RT3 × Bool × Int × (List (List AV)) × Int) : Option (Bool × Int × (List (List AV)) × Int) := (zh5 N).d x
theorem F28_parF (N : Nat) : ParF (zh5 N).t := by
  intro x α β k k' r r' h h1
  revert h
  dsimp only [zh5]
  (repeat' (first | (with_reducible refine zg ?_ ?_) | (with_reducible refine zc ?_ ?_) | split)) <;> intro h <;> first | exact h1 _ h | (cases h; done)
theorem F28_text (N : Nat) : TxOk (zt Try.prog) (F28_g N) F28_an (lam N []) Try.f28 (zh5 N) := fun x => by kernel_rfl
noncomputable def F28_e (N : Nat) : Ent Try.prog := zB (zf Try.prog) (zk _) zm 28 Try.f28 Try.func28 rfl F28_an (lam N []) (zp (l := []) an (by kernel_rfl)) (zh5 N) (fun _ => ⟨rfl, rfl⟩) (F28_text N) (fun _ _ _ h => zA h (fun _ _ => rfl) (fun _ _ => rfl)) (F28_parF N)
def F71_an : Nat → Keep × Keep := anL []
noncomputable def F71_g (N : Nat) : GamK := gam (P := Try.prog) []
noncomputable def zd2 (N : Nat) : FSpec where
  X := Int × Int × Int
  Y := Int × Int × Int
  ash := [[none, none, none]]
  bsh := []
  S := ⟨[[none, none, none]], [], [], [], []⟩
  bm := false
  pat := fun a b => zj a fun v1 c2 => Z4 v1 fun c3 => zj c3 fun c4 c5 => pInt .i64 c4 fun a0 => zj c5 fun c6 c7 => pInt .i64 c6 fun a1 => zj c7 fun c8 c9 => pInt .i64 c8 fun a2 => pEnd c9 <| pEnd c2 <| pEnd b <| some (a0, a1, a2)
  args := fun x => [(AV.agg [(AV.v (.int .i64 x.1)), (AV.v (.int .i64 x.2.1)), (AV.v (.int .i64 x.2.2))])]
  bs := fun x => []
  ret := fun y => ⟨(AV.agg [(AV.v (.int .i64 y.1)), (AV.v (.int .i64 y.2.1)), (AV.v (.int .i64 y.2.2))]), [], none, [], [], []⟩
  t := fun x α k => (k x)
noncomputable abbrev zhV (N : Nat) (x : Int × Int × Int) : Option (Int × Int × Int) := (zd2 N).d x
theorem F71_parF (N : Nat) : ParF (zd2 N).t := by
  intro x α β k k' r r' h h1
  revert h
  dsimp only [zd2]
  (repeat' (first | (with_reducible refine zg ?_ ?_) | (with_reducible refine zc ?_ ?_) | split)) <;> intro h <;> first | exact h1 _ h | (cases h; done)
theorem F71_text (N : Nat) : TxOk (zt Try.prog) (F71_g N) F71_an (lam N []) Try.f71 (zd2 N) := fun x => by kernel_rfl
theorem F71_pat (N : Nat) (a : List AV) (b : List (List AV)) (x : (zd2 N).X) (h : (zd2 N).pat a b = some x) : a = (zd2 N).args x ∧ b = (zd2 N).bs x := by
  obtain ⟨v1, c2, rfl, g0⟩ := zb (show zj _ _ = some x from h)
  obtain ⟨c3, rfl, g1⟩ := zJ g0; clear g0
  obtain ⟨c4, c5, rfl, g2⟩ := zb g1; clear g1
  obtain ⟨a0, rfl, g3⟩ := zi g2; clear g2
  obtain ⟨c6, c7, rfl, g4⟩ := zb g3; clear g3
  obtain ⟨a1, rfl, g5⟩ := zi g4; clear g4
  obtain ⟨c8, c9, rfl, g6⟩ := zb g5; clear g5
  obtain ⟨a2, rfl, g7⟩ := zi g6; clear g6
  obtain ⟨rfl, g8⟩ := ze g7; clear g7
  obtain ⟨rfl, g9⟩ := ze g8; clear g8
  obtain ⟨rfl, g10⟩ := ze g9; clear g9
  clear h
  cases g10
  exact ⟨rfl, rfl⟩
noncomputable def F71_e (N : Nat) : Ent Try.prog := zB (zf Try.prog) (zk _) zm 71 Try.f71 Try.func71 rfl F71_an (lam N []) (zp (l := []) an (by kernel_rfl)) (zd2 N) (fun _ => ⟨rfl, rfl⟩) (F71_text N) (F71_pat N) (F71_parF N)
def Jh : Nat → Keep × Keep := anL [(5, ⟨[3, 8, 9], [], [3], [], [], [], [], [], false⟩, ⟨[2], [], [], [], [], [], [], [], false⟩)]
noncomputable def F70_g (N : Nat) : GamK := gam (P := Try.prog) [F71_e N]
noncomputable def Z9 (N : Nat) : LSpec where
  X := Int × Int × Int × Int × Int × Int × Int
  Y := (Bool) ⊕ (Unit)
  p := fun s => pNat s.env.length 23 <| pNat s.nin 0 <| pPtr 3 0 (s.at 3) <| Z4 (s.at 8) fun c4 => zj c4 fun c6 c7 => pInt .i64 c6 fun a0 => zj c7 fun c8 c9 => pInt .i64 c8 fun a1 => zj c9 fun c10 c11 => pInt .i64 c10 fun a2 => pEnd c11 <| pInt .i64 (s.at 9) fun a3 => zT (s.bx 3) fun c13 => zj c13 fun c15 c16 => pInt .i64 c15 fun a4 => zj c16 fun c17 c18 => pInt .i64 c17 fun a5 => zj c18 fun c19 c20 => pInt .i64 c19 fun a6 => pEnd c20 <| some (a0, a1, a2, a3, a4, a5, a6)
  st := fun u5 => mkS 23 [(3, (AV.ptr 3 0)), (8, (AV.agg [(AV.v (.int .i64 u5.1)), (AV.v (.int .i64 u5.2.1)), (AV.v (.int .i64 u5.2.2.1))])), (9, (AV.v (.int .i64 u5.2.2.2.1)))] [(3, [(AV.v (.int .i64 u5.2.2.2.2.1)), (AV.v (.int .i64 u5.2.2.2.2.2.1)), (AV.v (.int .i64 u5.2.2.2.2.2.2))])] (Jh 5).1.toks 0
  out := fun y => match y with
    | .inl y => (.ret, mkS 23 [(2, (AV.v (.bool y)))] [] (Jh 5).2.toks 0)
    | .inr y => (.exit 0, mkS 23 [] [] (Jh 5).2.toks 0)
  sp := fun y α k => match y with
    | .inl y => k (.ret, mkS 23 [(2, (AV.v (.bool y)))] [] (Jh 5).2.toks 0)
    | .inr y => k (.exit 0, mkS 23 [] [] (Jh 5).2.toks 0)
  spe := fun y α k => by rcases y with _ | _ <;> rfl
  b := fun u5 α kn ke => (match (decide (u5.2.2.2.1 < 3)) with | true => (if 0 ≤ u5.2.2.2.1 ∧ u5.2.2.2.1 < 3 then (match [(AV.v (.int .i64 u5.1)), (AV.v (.int .i64 u5.2.1)), (AV.v (.int .i64 u5.2.2.1))][(u5.2.2.2.1.toNat * 1)]? with | some x2 => (match x2 with | .v (.int q4 n3) => (if q4 = .i64 then (if 0 ≤ u5.2.2.2.1 ∧ u5.2.2.2.1 < 3 then (match [(AV.v (.int .i64 u5.2.2.2.2.1)), (AV.v (.int .i64 u5.2.2.2.2.2.1)), (AV.v (.int .i64 u5.2.2.2.2.2.2))][(0 + u5.2.2.2.1.toNat * 1)]? with | some x5 => (match x5 with | .v (.int q7 n6) => (if q7 = .i64 then (match (decide (n3 < n6)) with | true => (ke (.inl false)) | false => (match (decide (n3 > 1048576)) with | true => (ke (.inl false)) | false => (kn (u5.1, u5.2.1, u5.2.2.1, (i64 (u5.2.2.2.1 + 1)), u5.2.2.2.2)))) else none) | _ => none) | none => none) else none) else none) | _ => none) | none => none) else none) | false => (ke (.inr ())))
noncomputable abbrev F70_d5 (N : Nat) (x : Int × Int × Int × Int × Int × Int × Int) : Option ((Bool) ⊕ (Unit)) := (Z9 N).L N x
noncomputable def zcL (N : Nat) : FSpec where
  X := Int × Int × Int
  Y := Bool
  ash := [[none, none, none]]
  bsh := []
  S := ⟨[[none]], [], [], [], []⟩
  bm := false
  pat := fun a b => zj a fun v1 c2 => Z4 v1 fun c3 => zj c3 fun c4 c5 => pInt .i64 c4 fun a0 => zj c5 fun c6 c7 => pInt .i64 c6 fun a1 => zj c7 fun c8 c9 => pInt .i64 c8 fun a2 => pEnd c9 <| pEnd c2 <| pEnd b <| some (a0, a1, a2)
  args := fun x => [(AV.agg [(AV.v (.int .i64 x.1)), (AV.v (.int .i64 x.2.1)), (AV.v (.int .i64 x.2.2))])]
  bs := fun x => []
  ret := fun y => ⟨(AV.v (.bool y)), [], none, [], [], []⟩
  t := fun x α k => (match zhV N x with | some y1 => (match F70_d5 N (y1.1, y1.2.1, y1.2.2, 0, (-1048576), (-1048576), (-16384)) with | some y8 => (match y8 with | .inl z9 => (k z9) | .inr z10 => (k true)) | none => none) | none => none)
noncomputable abbrev F70_d (N : Nat) (x : Int × Int × Int) : Option (Bool) := (zcL N).d x
noncomputable def zeA (N : Nat) : List (Nat × LSpec) := [(5, Z9 N)]
noncomputable def F70_c : Code := Try.f70.body.getD .skip
theorem F70_par5 (N : Nat) : Par (Z9 N).b := by
  intro x α β kn ke kn' ke' r r' h h1 h2
  revert h
  dsimp only [Z9]
  (repeat' (first | (with_reducible refine zg ?_ ?_) | (with_reducible refine zc ?_ ?_) | split)) <;> intro h <;> first | exact h1 _ h | exact h2 _ h | (cases h; done)
theorem zmG (N : Nat) : BdOk (zt Try.prog) (F70_g N) Jh N (zeA N) 5 F70_c (Z9 N) := fun x α kn ke => by kernel_rfl
theorem F70_pat5 (N : Nat) (s : AS) (x : (Z9 N).X) (hc : s = Zp (Jh 5).1 s) (h : (Z9 N).p s = some x) : s = (Z9 N).st x := by
  replace h : pNat _ _ _ = some x := h
  obtain ⟨h1, g0⟩ := zS h
  obtain ⟨h2, g1⟩ := zS g0; clear g0
  obtain ⟨h3, g2⟩ := zo g1; clear g1
  obtain ⟨c4, h5, g3⟩ := zJ g2; clear g2
  obtain ⟨c6, c7, rfl, g4⟩ := zb g3; clear g3
  obtain ⟨a0, rfl, g5⟩ := zi g4; clear g4
  obtain ⟨c8, c9, rfl, g6⟩ := zb g5; clear g5
  obtain ⟨a1, rfl, g7⟩ := zi g6; clear g6
  obtain ⟨c10, c11, rfl, g8⟩ := zb g7; clear g7
  obtain ⟨a2, rfl, g9⟩ := zi g8; clear g8
  obtain ⟨rfl, g10⟩ := ze g9; clear g9
  obtain ⟨a3, h12, g11⟩ := zi g10; clear g10
  obtain ⟨c13, h14, g12⟩ := zr g11; clear g11
  obtain ⟨c15, c16, rfl, g13⟩ := zb g12; clear g12
  obtain ⟨a4, rfl, g14⟩ := zi g13; clear g13
  obtain ⟨c17, c18, rfl, g15⟩ := zb g14; clear g14
  obtain ⟨a5, rfl, g16⟩ := zi g15; clear g15
  obtain ⟨c19, c20, rfl, g17⟩ := zb g16; clear g16
  obtain ⟨a6, rfl, g18⟩ := zi g17; clear g17
  obtain ⟨rfl, g19⟩ := ze g18; clear g18
  clear h
  cases g19
  exact Zt hc h1 h2 rfl rfl rfl ⟨h3, h5, h12, trivial⟩ ⟨h14, trivial⟩
theorem zmP (N : Nat) : LpOk Try.prog Jh N (zeA N) 5 (zd 5 F70_c) :=
  zE (zf Try.prog) (zk _) zm Jh N (zeA N) 5 F70_c (l := []) (by kernel_rfl) (by kernel_rfl) an (Z9 N) rfl (F70_pat5 N) (fun _ => rfl) (zmG N) (F70_par5 N)
theorem F70_parF (N : Nat) : ParF (zcL N).t := by
  intro x α β k k' r r' h h1
  revert h
  dsimp only [zcL]
  (repeat' (first | (with_reducible refine zg ?_ ?_) | (with_reducible refine zc ?_ ?_) | split)) <;> intro h <;> first | exact h1 _ h | (cases h; done)
theorem F70_text (N : Nat) : TxOk (zt Try.prog) (F70_g N) Jh (lam N (zeA N)) Try.f70 (zcL N) := fun x => by kernel_rfl
theorem F70_pat (N : Nat) (a : List AV) (b : List (List AV)) (x : (zcL N).X) (h : (zcL N).pat a b = some x) : a = (zcL N).args x ∧ b = (zcL N).bs x := by
  obtain ⟨v1, c2, rfl, g0⟩ := zb (show zj _ _ = some x from h)
  obtain ⟨c3, rfl, g1⟩ := zJ g0; clear g0
  obtain ⟨c4, c5, rfl, g2⟩ := zb g1; clear g1
  obtain ⟨a0, rfl, g3⟩ := zi g2; clear g2
  obtain ⟨c6, c7, rfl, g4⟩ := zb g3; clear g3
  obtain ⟨a1, rfl, g5⟩ := zi g4; clear g4
  obtain ⟨c8, c9, rfl, g6⟩ := zb g5; clear g5
  obtain ⟨a2, rfl, g7⟩ := zi g6; clear g6
  obtain ⟨rfl, g8⟩ := ze g7; clear g7
  obtain ⟨rfl, g9⟩ := ze g8; clear g8
  obtain ⟨rfl, g10⟩ := ze g9; clear g9
  clear h
  cases g10
  exact ⟨rfl, rfl⟩
noncomputable def F70_e (N : Nat) : Ent Try.prog := zB (zf Try.prog) (zk _) zm 70 Try.f70 Try.func70 rfl Jh (lam N (zeA N)) (zp (l := [(5, zd 5 F70_c)]) (al (zmP N) an) (by kernel_rfl)) (zcL N) (fun _ => ⟨rfl, rfl⟩) (F70_text N) (F70_pat N) (F70_parF N)
def zap : Nat → Keep × Keep := anL [(9, ⟨[5, 6, 20, 21], [], [6], [], [], [], [], [], false⟩, ⟨[5], [], [], [], [], [], [], [], false⟩)]
noncomputable def F51_g (N : Nat) : GamK := gam (P := Try.prog) [F70_e N, F71_e N]
noncomputable def jb (N : Nat) : LSpec where
  X := Int × Int × Int × Int × Int × Int × Int × Int
  Y := (Int)
  p := fun s => pNat s.env.length 40 <| pNat s.nin 0 <| pInt .i64 (s.at 5) fun a0 => pPtr 6 0 (s.at 6) <| Z4 (s.at 20) fun c5 => zj c5 fun c7 c8 => pInt .i64 c7 fun a1 => zj c8 fun c9 c10 => pInt .i64 c9 fun a2 => zj c10 fun c11 c12 => pInt .i64 c11 fun a3 => pEnd c12 <| pInt .i64 (s.at 21) fun a4 => zT (s.bx 6) fun c14 => zj c14 fun c16 c17 => pInt .i64 c16 fun a5 => zj c17 fun c18 c19 => pInt .i64 c18 fun a6 => zj c19 fun c20 c21 => pInt .i64 c20 fun a7 => pEnd c21 <| some (a0, a1, a2, a3, a4, a5, a6, a7)
  st := fun u9 => mkS 40 [(5, (AV.v (.int .i64 u9.1))), (6, (AV.ptr 6 0)), (20, (AV.agg [(AV.v (.int .i64 u9.2.1)), (AV.v (.int .i64 u9.2.2.1)), (AV.v (.int .i64 u9.2.2.2.1))])), (21, (AV.v (.int .i64 u9.2.2.2.2.1)))] [(6, [(AV.v (.int .i64 u9.2.2.2.2.2.1)), (AV.v (.int .i64 u9.2.2.2.2.2.2.1)), (AV.v (.int .i64 u9.2.2.2.2.2.2.2))])] (zap 9).1.toks 0
  out := fun y => (.exit 0, mkS 40 [(5, (AV.v (.int .i64 y)))] [] (zap 9).2.toks 0)
  sp := fun y α k => k (.exit 0, mkS 40 [(5, (AV.v (.int .i64 y)))] [] (zap 9).2.toks 0)
  spe := fun y α k => rfl
  b := fun u9 α kn ke => (match (decide (u9.2.2.2.2.1 < 3)) with | true => (if 0 ≤ u9.2.2.2.2.1 ∧ u9.2.2.2.2.1 < 3 then (match [(AV.v (.int .i64 u9.2.1)), (AV.v (.int .i64 u9.2.2.1)), (AV.v (.int .i64 u9.2.2.2.1))][(u9.2.2.2.2.1.toNat * 1)]? with | some x5 => (match x5 with | .v (.int q7 n6) => (if q7 = .i64 then (if 0 ≤ u9.2.2.2.2.1 ∧ u9.2.2.2.2.1 < 3 then (match [(AV.v (.int .i64 u9.2.2.2.2.2.1)), (AV.v (.int .i64 u9.2.2.2.2.2.2.1)), (AV.v (.int .i64 u9.2.2.2.2.2.2.2))][(0 + u9.2.2.2.2.1.toNat * 1)]? with | some x8 => (match x8 with | .v (.int q10 n9) => (if q10 = .i64 then (if 0 ≤ u9.2.2.2.2.1 ∧ u9.2.2.2.2.1 < 3 then (match [(AV.v (.int .i64 u9.2.2.2.2.2.1)), (AV.v (.int .i64 u9.2.2.2.2.2.2.1)), (AV.v (.int .i64 u9.2.2.2.2.2.2.2))][(0 + u9.2.2.2.2.1.toNat * 1)]? with | some x11 => (match x11 with | .v (.int q13 n12) => (if q13 = .i64 then (kn ((i64 (u9.1 + (i64 ((i64 (n6 - n9)) * (i64 (n6 - n12)))))), u9.2.1, u9.2.2.1, u9.2.2.2.1, (i64 (u9.2.2.2.2.1 + 1)), u9.2.2.2.2.2)) else none) | _ => none) | none => none) else none) else none) | _ => none) | none => none) else none) else none) | _ => none) | none => none) else none) | false => (ke u9.1))
noncomputable abbrev F51_d9 (N : Nat) (x : Int × Int × Int × Int × Int × Int × Int × Int) : Option ((Int)) := (jb N).L N x
noncomputable def zcX (N : Nat) : FSpec where
  X := Int × Int × Int × Int × Int × Int
  Y := Int
  ash := [[none, none, none], [none, none, none]]
  bsh := []
  S := ⟨[[none]], [], [], [], []⟩
  bm := false
  pat := fun a b => zj a fun v1 c2 => Z4 v1 fun c3 => zj c3 fun c4 c5 => pInt .i64 c4 fun a0 => zj c5 fun c6 c7 => pInt .i64 c6 fun a1 => zj c7 fun c8 c9 => pInt .i64 c8 fun a2 => pEnd c9 <| zj c2 fun v10 c11 => Z4 v10 fun c12 => zj c12 fun c13 c14 => pInt .i64 c13 fun a3 => zj c14 fun c15 c16 => pInt .i64 c15 fun a4 => zj c16 fun c17 c18 => pInt .i64 c17 fun a5 => pEnd c18 <| pEnd c11 <| pEnd b <| some (a0, a1, a2, a3, a4, a5)
  args := fun x => [(AV.agg [(AV.v (.int .i64 x.1)), (AV.v (.int .i64 x.2.1)), (AV.v (.int .i64 x.2.2.1))]), (AV.agg [(AV.v (.int .i64 x.2.2.2.1)), (AV.v (.int .i64 x.2.2.2.2.1)), (AV.v (.int .i64 x.2.2.2.2.2))])]
  bs := fun x => []
  ret := fun y => ⟨(AV.v (.int .i64 y)), [], none, [], [], []⟩
  t := fun x α k => (match F70_d N (x.1, x.2.1, x.2.2.1) with | some y1 => (match (!y1) with | true => (k 0) | false => (match F70_d N x.2.2.2 with | some y2 => (match (!y2) with | true => (k 0) | false => (match zhV N x.2.2.2 with | some y3 => (match zhV N (x.1, x.2.1, x.2.2.1) with | some y4 => (match F51_d9 N (0, y4.1, y4.2.1, y4.2.2, 0, y3) with | some y14 => (k y14) | none => none) | none => none) | none => none)) | none => none)) | none => none)
noncomputable abbrev F51_d (N : Nat) (x : Int × Int × Int × Int × Int × Int) : Option (Int) := (zcX N).d x
noncomputable def zeQ (N : Nat) : List (Nat × LSpec) := [(9, jb N)]
noncomputable def F51_c : Code := Try.f51.body.getD .skip
theorem F51_par9 (N : Nat) : Par (jb N).b := by
  intro x α β kn ke kn' ke' r r' h h1 h2
  revert h
  dsimp only [jb]
  (repeat' (first | (with_reducible refine zg ?_ ?_) | (with_reducible refine zc ?_ ?_) | split)) <;> intro h <;> first | exact h1 _ h | exact h2 _ h | (cases h; done)
theorem zma (N : Nat) : BdOk (zt Try.prog) (F51_g N) zap N (zeQ N) 9 F51_c (jb N) := fun x α kn ke => by kernel_rfl
theorem F51_pat9 (N : Nat) (s : AS) (x : (jb N).X) (hc : s = Zp (zap 9).1 s) (h : (jb N).p s = some x) : s = (jb N).st x := by
  replace h : pNat _ _ _ = some x := h
  obtain ⟨h1, g0⟩ := zS h
  obtain ⟨h2, g1⟩ := zS g0; clear g0
  obtain ⟨a0, h3, g2⟩ := zi g1; clear g1
  obtain ⟨h4, g3⟩ := zo g2; clear g2
  obtain ⟨c5, h6, g4⟩ := zJ g3; clear g3
  obtain ⟨c7, c8, rfl, g5⟩ := zb g4; clear g4
  obtain ⟨a1, rfl, g6⟩ := zi g5; clear g5
  obtain ⟨c9, c10, rfl, g7⟩ := zb g6; clear g6
  obtain ⟨a2, rfl, g8⟩ := zi g7; clear g7
  obtain ⟨c11, c12, rfl, g9⟩ := zb g8; clear g8
  obtain ⟨a3, rfl, g10⟩ := zi g9; clear g9
  obtain ⟨rfl, g11⟩ := ze g10; clear g10
  obtain ⟨a4, h13, g12⟩ := zi g11; clear g11
  obtain ⟨c14, h15, g13⟩ := zr g12; clear g12
  obtain ⟨c16, c17, rfl, g14⟩ := zb g13; clear g13
  obtain ⟨a5, rfl, g15⟩ := zi g14; clear g14
  obtain ⟨c18, c19, rfl, g16⟩ := zb g15; clear g15
  obtain ⟨a6, rfl, g17⟩ := zi g16; clear g16
  obtain ⟨c20, c21, rfl, g18⟩ := zb g17; clear g17
  obtain ⟨a7, rfl, g19⟩ := zi g18; clear g18
  obtain ⟨rfl, g20⟩ := ze g19; clear g19
  clear h
  cases g20
  exact Zt hc h1 h2 rfl rfl rfl ⟨h3, h4, h6, h13, trivial⟩ ⟨h15, trivial⟩
theorem zkH (N : Nat) : LpOk Try.prog zap N (zeQ N) 9 (zd 9 F51_c) :=
  zE (zf Try.prog) (zk _) zm zap N (zeQ N) 9 F51_c (l := []) (by kernel_rfl) (by kernel_rfl) an (jb N) rfl (F51_pat9 N) (fun _ => rfl) (zma N) (F51_par9 N)
theorem F51_parF (N : Nat) : ParF (zcX N).t := by
  intro x α β k k' r r' h h1
  revert h
  dsimp only [zcX]
  (repeat' (first | (with_reducible refine zg ?_ ?_) | (with_reducible refine zc ?_ ?_) | split)) <;> intro h <;> first | exact h1 _ h | (cases h; done)
theorem F51_text (N : Nat) : TxOk (zt Try.prog) (F51_g N) zap (lam N (zeQ N)) Try.f51 (zcX N) := fun x => by kernel_rfl
theorem F51_pat (N : Nat) (a : List AV) (b : List (List AV)) (x : (zcX N).X) (h : (zcX N).pat a b = some x) : a = (zcX N).args x ∧ b = (zcX N).bs x := by
  obtain ⟨v1, c2, rfl, g0⟩ := zb (show zj _ _ = some x from h)
  obtain ⟨c3, rfl, g1⟩ := zJ g0; clear g0
  obtain ⟨c4, c5, rfl, g2⟩ := zb g1; clear g1
  obtain ⟨a0, rfl, g3⟩ := zi g2; clear g2
  obtain ⟨c6, c7, rfl, g4⟩ := zb g3; clear g3
  obtain ⟨a1, rfl, g5⟩ := zi g4; clear g4
  obtain ⟨c8, c9, rfl, g6⟩ := zb g5; clear g5
  obtain ⟨a2, rfl, g7⟩ := zi g6; clear g6
  obtain ⟨rfl, g8⟩ := ze g7; clear g7
  obtain ⟨v10, c11, rfl, g9⟩ := zb g8; clear g8
  obtain ⟨c12, rfl, g10⟩ := zJ g9; clear g9
  obtain ⟨c13, c14, rfl, g11⟩ := zb g10; clear g10
  obtain ⟨a3, rfl, g12⟩ := zi g11; clear g11
  obtain ⟨c15, c16, rfl, g13⟩ := zb g12; clear g12
  obtain ⟨a4, rfl, g14⟩ := zi g13; clear g13
  obtain ⟨c17, c18, rfl, g15⟩ := zb g14; clear g14
  obtain ⟨a5, rfl, g16⟩ := zi g15; clear g15
  obtain ⟨rfl, g17⟩ := ze g16; clear g16
  obtain ⟨rfl, g18⟩ := ze g17; clear g17
  obtain ⟨rfl, g19⟩ := ze g18; clear g18
  clear h
  cases g19
  exact ⟨rfl, rfl⟩
noncomputable def F51_e (N : Nat) : Ent Try.prog := zB (zf Try.prog) (zk _) zm 51 Try.f51 Try.func51 rfl zap (lam N (zeQ N)) (zp (l := [(9, zd 9 F51_c)]) (al (zkH N) an) (by kernel_rfl)) (zcX N) (fun _ => ⟨rfl, rfl⟩) (F51_text N) (F51_pat N) (F51_parF N)
def F52_an : Nat → Keep × Keep := anL []
noncomputable def F52_g (N : Nat) : GamK := gam (P := Try.prog) []
noncomputable def zi1 (N : Nat) : FSpec where
  X := Int × Int
  Y := Int
  ash := [[none], [none]]
  bsh := []
  S := ⟨[[none]], [], [], [], []⟩
  bm := false
  pat := fun a b => rdA [.int .i64, .int .i64] [] a b fun ⟨a0, a1, _⟩ _ => (a0, a1)
  args := fun x => [(AV.v (.int .i64 x.1)), (AV.v (.int .i64 x.2))]
  bs := fun x => []
  ret := fun y => ⟨(AV.v (.int .u64 y)), [], none, [], [], []⟩
  t := fun x α k => (match (decide (x.1 < x.2)) with | true => (k (IntKind.u64.wrap ((IntKind.u64.wrap x.2) - (IntKind.u64.wrap x.1)))) | false => (k (IntKind.u64.wrap ((IntKind.u64.wrap x.1) - (IntKind.u64.wrap x.2)))))
noncomputable abbrev F52_d (N : Nat) (x : Int × Int) : Option (Int) := (zi1 N).d x
theorem F52_parF (N : Nat) : ParF (zi1 N).t := by
  intro x α β k k' r r' h h1
  revert h
  dsimp only [zi1]
  (repeat' (first | (with_reducible refine zg ?_ ?_) | (with_reducible refine zc ?_ ?_) | split)) <;> intro h <;> first | exact h1 _ h | (cases h; done)
theorem F52_text (N : Nat) : TxOk (zt Try.prog) (F52_g N) F52_an (lam N []) Try.f52 (zi1 N) := fun x => by kernel_rfl
noncomputable def F52_e (N : Nat) : Ent Try.prog := zB (zf Try.prog) (zk _) zm 52 Try.f52 Try.func52 rfl F52_an (lam N []) (zp (l := []) an (by kernel_rfl)) (zi1 N) (fun _ => ⟨rfl, rfl⟩) (F52_text N) (fun _ _ _ h => zA h (fun _ _ => rfl) (fun _ _ => rfl)) (F52_parF N)
def F53_an : Nat → Keep × Keep := anL []
noncomputable def F53_g (N : Nat) : GamK := gam (P := Try.prog) []
noncomputable def zcP (N : Nat) : FSpec where
  X := Int × Int × Int × Int
  Y := Bool
  ash := [[none, none], [none, none]]
  bsh := []
  S := ⟨[[none]], [], [], [], []⟩
  bm := false
  pat := fun a b => zj a fun v1 c2 => Z4 v1 fun c3 => zj c3 fun c4 c5 => pInt .i64 c4 fun a0 => zj c5 fun c6 c7 => pInt .i64 c6 fun a1 => pEnd c7 <| zj c2 fun v8 c9 => Z4 v8 fun c10 => zj c10 fun c11 c12 => pInt .i64 c11 fun a2 => zj c12 fun c13 c14 => pInt .i64 c13 fun a3 => pEnd c14 <| pEnd c9 <| pEnd b <| some (a0, a1, a2, a3)
  args := fun x => [(AV.agg [(AV.v (.int .i64 x.1)), (AV.v (.int .i64 x.2.1))]), (AV.agg [(AV.v (.int .i64 x.2.2.1)), (AV.v (.int .i64 x.2.2.2))])]
  bs := fun x => []
  ret := fun y => ⟨(AV.v (.bool y)), [], none, [], [], []⟩
  t := fun x α k => (k (decide ((if x.2.2.1 > x.1 then x.2.2.1 else x.1) ≤ (if x.2.2.2 < x.2.1 then x.2.2.2 else x.2.1))))
noncomputable abbrev F53_d (N : Nat) (x : Int × Int × Int × Int) : Option (Bool) := (zcP N).d x
theorem F53_parF (N : Nat) : ParF (zcP N).t := by
  intro x α β k k' r r' h h1
  revert h
  dsimp only [zcP]
  (repeat' (first | (with_reducible refine zg ?_ ?_) | (with_reducible refine zc ?_ ?_) | split)) <;> intro h <;> first | exact h1 _ h | (cases h; done)
theorem F53_text (N : Nat) : TxOk (zt Try.prog) (F53_g N) F53_an (lam N []) Try.f53 (zcP N) := fun x => by kernel_rfl
theorem F53_pat (N : Nat) (a : List AV) (b : List (List AV)) (x : (zcP N).X) (h : (zcP N).pat a b = some x) : a = (zcP N).args x ∧ b = (zcP N).bs x := by
  obtain ⟨v1, c2, rfl, g0⟩ := zb (show zj _ _ = some x from h)
  obtain ⟨c3, rfl, g1⟩ := zJ g0; clear g0
  obtain ⟨c4, c5, rfl, g2⟩ := zb g1; clear g1
  obtain ⟨a0, rfl, g3⟩ := zi g2; clear g2
  obtain ⟨c6, c7, rfl, g4⟩ := zb g3; clear g3
  obtain ⟨a1, rfl, g5⟩ := zi g4; clear g4
  obtain ⟨rfl, g6⟩ := ze g5; clear g5
  obtain ⟨v8, c9, rfl, g7⟩ := zb g6; clear g6
  obtain ⟨c10, rfl, g8⟩ := zJ g7; clear g7
  obtain ⟨c11, c12, rfl, g9⟩ := zb g8; clear g8
  obtain ⟨a2, rfl, g10⟩ := zi g9; clear g9
  obtain ⟨c13, c14, rfl, g11⟩ := zb g10; clear g10
  obtain ⟨a3, rfl, g12⟩ := zi g11; clear g11
  obtain ⟨rfl, g13⟩ := ze g12; clear g12
  obtain ⟨rfl, g14⟩ := ze g13; clear g13
  obtain ⟨rfl, g15⟩ := ze g14; clear g14
  clear h
  cases g15
  exact ⟨rfl, rfl⟩
noncomputable def F53_e (N : Nat) : Ent Try.prog := zB (zf Try.prog) (zk _) zm 53 Try.f53 Try.func53 rfl F53_an (lam N []) (zp (l := []) an (by kernel_rfl)) (zcP N) (fun _ => ⟨rfl, rfl⟩) (F53_text N) (F53_pat N) (F53_parF N)
def F32_an : Nat → Keep × Keep := anL []
noncomputable def F32_g (N : Nat) : GamK := gam (P := Try.prog) [F43_e N, F31_e N, F51_e N, F52_e N, F53_e N]
noncomputable def zcK (N : Nat) : FSpec where
  X := (List (List AV)) × Int × Int × RT0 × RT0
  Y := Bool
  ash := [[some 4, none, none], [none, none, none, none, none, none, none, none, none, some 9, none, none, none, none, none, none, none, none, none, none, none, none, none, none, none], [none, none, none, none, none, none, none, none, none, some 9, none, none, none, none, none, none, none, none, none, none, none, none, none, none, none]]
  bsh := []
  S := ⟨[[none]], [], [], [], []⟩
  bm := false
  pat := fun a b => zj a fun v1 c2 => Z4 v1 fun c3 => zj c3 fun c4 c5 => pLst 4 c4 fun a0 => zj c5 fun c6 c7 => pInt .i64 c6 fun a1 => zj c7 fun c8 c9 => pInt .i64 c8 fun a2 => pEnd c9 <| zj c2 fun v10 c11 => pAgg RK0 v10 fun a3 => zj c11 fun v12 c13 => pAgg RK0 v12 fun a4 => pEnd c13 <| pEnd b <| some (a0, a1, a2, a3, a4)
  args := fun x => [(AV.agg [(AV.list 4 x.1 none), (AV.v (.int .i64 x.2.1)), (AV.v (.int .i64 x.2.2.1))]), (AV.agg (Ren0 x.2.2.2.1)), (AV.agg (Ren0 x.2.2.2.2))]
  bs := fun x => []
  ret := fun y => ⟨(AV.v (.bool y)), [], none, [], [], []⟩
  t := fun x α k => (match F43_d N (x.1, x.2.1, x.2.2.1) with | some y1 => (match (y1 != 0) with | true => (k false) | false => (match F31_d N (x.1, x.2.1, x.2.2.1, x.2.2.2.1) with | some y2 => (match F31_d N (x.1, x.2.1, x.2.2.1, x.2.2.2.2) with | some y3 => (match (y2 != y3) with | true => (k true) | false => (match (decide (x.2.1 ≤ 4194304)) with | true => (match F51_d N (x.2.2.2.1.2.2.2.2.2.2.2.2.2.2.1, x.2.2.2.1.2.2.2.2.2.2.2.2.2.2.2.1, x.2.2.2.1.2.2.2.2.2.2.2.2.2.2.2.2.1, x.2.2.2.2.2.2.2.2.2.2.2.2.2.2.1, x.2.2.2.2.2.2.2.2.2.2.2.2.2.2.2.1, x.2.2.2.2.2.2.2.2.2.2.2.2.2.2.2.2.1) with | some y4 => (match (decide (y4 > (i64 (x.2.1 * x.2.1)))) with | true => (k true) | false => (match F52_d N (x.2.2.2.1.2.2.2.2.2.2.2.2.2.2.2.2.2.1, x.2.2.2.2.2.2.2.2.2.2.2.2.2.2.2.2.2.1) with | some y5 => (match (decide (y5 > (IntKind.u64.wrap x.2.1))) with | true => (k true) | false => (match F53_d N (x.2.2.2.1.2.2.2.2.2.2.2.2.2.2.2.2.2.2.2.2.2.2.2.2.2.2.1, x.2.2.2.1.2.2.2.2.2.2.2.2.2.2.2.2.2.2.2.2.2.2.2.2.2.2.2.1, x.2.2.2.2.2.2.2.2.2.2.2.2.2.2.2.2.2.2.2.2.2.2.2.2.2.2.1, x.2.2.2.2.2.2.2.2.2.2.2.2.2.2.2.2.2.2.2.2.2.2.2.2.2.2.2.1) with | some y6 => (k (!y6)) | none => none)) | none => none)) | none => none) | false => (match F52_d N (x.2.2.2.1.2.2.2.2.2.2.2.2.2.2.2.2.2.1, x.2.2.2.2.2.2.2.2.2.2.2.2.2.2.2.2.2.1) with | some y7 => (match (decide (y7 > (IntKind.u64.wrap x.2.1))) with | true => (k true) | false => (match F53_d N (x.2.2.2.1.2.2.2.2.2.2.2.2.2.2.2.2.2.2.2.2.2.2.2.2.2.2.1, x.2.2.2.1.2.2.2.2.2.2.2.2.2.2.2.2.2.2.2.2.2.2.2.2.2.2.2.1, x.2.2.2.2.2.2.2.2.2.2.2.2.2.2.2.2.2.2.2.2.2.2.2.2.2.2.1, x.2.2.2.2.2.2.2.2.2.2.2.2.2.2.2.2.2.2.2.2.2.2.2.2.2.2.2.1) with | some y8 => (k (!y8)) | none => none)) | none => none))) | none => none) | none => none)) | none => none)
noncomputable abbrev zlZ (N : Nat) (x : (List (List AV)) × Int × Int × RT0 × RT0) : Option (Bool) := (zcK N).d x
theorem F32_parF (N : Nat) : ParF (zcK N).t := by
  intro x α β k k' r r' h h1
  revert h
  dsimp only [zcK]
  (repeat' (first | (with_reducible refine zg ?_ ?_) | (with_reducible refine zc ?_ ?_) | split)) <;> intro h <;> first | exact h1 _ h | (cases h; done)
theorem F32_text (N : Nat) : TxOk (zt Try.prog) (F32_g N) F32_an (lam N []) Try.f32 (zcK N) := fun x => by kernel_rfl
theorem F32_pat (N : Nat) (a : List AV) (b : List (List AV)) (x : (zcK N).X) (h : (zcK N).pat a b = some x) : a = (zcK N).args x ∧ b = (zcK N).bs x := by
  obtain ⟨v1, c2, rfl, g0⟩ := zb (show zj _ _ = some x from h)
  obtain ⟨c3, rfl, g1⟩ := zJ g0; clear g0
  obtain ⟨c4, c5, rfl, g2⟩ := zb g1; clear g1
  obtain ⟨a0, rfl, g3⟩ := zy g2; clear g2
  obtain ⟨c6, c7, rfl, g4⟩ := zb g3; clear g3
  obtain ⟨a1, rfl, g5⟩ := zi g4; clear g4
  obtain ⟨c8, c9, rfl, g6⟩ := zb g5; clear g5
  obtain ⟨a2, rfl, g7⟩ := zi g6; clear g6
  obtain ⟨rfl, g8⟩ := ze g7; clear g7
  obtain ⟨v10, c11, rfl, g9⟩ := zb g8; clear g8
  obtain ⟨a3, rfl, g10⟩ := j9 g9; clear g9
  obtain ⟨v12, c13, rfl, g11⟩ := zb g10; clear g10
  obtain ⟨a4, rfl, g12⟩ := j9 g11; clear g11
  obtain ⟨rfl, g13⟩ := ze g12; clear g12
  obtain ⟨rfl, g14⟩ := ze g13; clear g13
  clear h
  cases g14
  exact ⟨rfl, rfl⟩
noncomputable def F32_e (N : Nat) : Ent Try.prog := zB (zf Try.prog) (zk _) zm 32 Try.f32 Try.func32 rfl F32_an (lam N []) (zp (l := []) an (by kernel_rfl)) (zcK N) (fun _ => ⟨rfl, rfl⟩) (F32_text N) (F32_pat N) (F32_parF N)
def F12_an : Nat → Keep × Keep := anL []
noncomputable def F12_g (N : Nat) : GamK := gam (P := Try.prog) [F31_e N]
noncomputable def zcD (N : Nat) : FSpec where
  X := (List (List AV)) × Int × Int × RT0 × Int
  Y := Bool
  ash := [[some 4, none, none], [none, none, none, none, none, none, none, none, none, some 9, none, none, none, none, none, none, none, none, none, none, none, none, none, none, none], [none]]
  bsh := []
  S := ⟨[[none]], [], [], [], []⟩
  bm := false
  pat := fun a b => zj a fun v1 c2 => Z4 v1 fun c3 => zj c3 fun c4 c5 => pLst 4 c4 fun a0 => zj c5 fun c6 c7 => pInt .i64 c6 fun a1 => zj c7 fun c8 c9 => pInt .i64 c8 fun a2 => pEnd c9 <| zj c2 fun v10 c11 => pAgg RK0 v10 fun a3 => zj c11 fun v12 c13 => pInt .i64 v12 fun a4 => pEnd c13 <| pEnd b <| some (a0, a1, a2, a3, a4)
  args := fun x => [(AV.agg [(AV.list 4 x.1 none), (AV.v (.int .i64 x.2.1)), (AV.v (.int .i64 x.2.2.1))]), (AV.agg (Ren0 x.2.2.2.1)), (AV.v (.int .i64 x.2.2.2.2))]
  bs := fun x => []
  ret := fun y => ⟨(AV.v (.bool y)), [], none, [], [], []⟩
  t := fun x α k => (match F31_d N (x.1, x.2.1, x.2.2.1, x.2.2.2.1) with | some y1 => (match (y1 == 0) with | true => (k false) | false => (match (decide ((i64 (x.2.2.2.2 - x.2.2.2.1.2.2.2.2.2.2.2.2.2.2.2.2.2.1)) ≥ 0)) with | true => (if 0 ≤ (i64 (y1 - 1)) then (match x.1[(i64 (y1 - 1)).toNat]? with | some c2 => (match (c2.drop 3)[0]? with | some x3 => (match x3 with | .v (.int q5 n4) => (if q5 = .i64 then (k (decide ((i64 (x.2.2.2.2 - x.2.2.2.1.2.2.2.2.2.2.2.2.2.2.2.2.2.1)) ≤ n4))) else none) | _ => none) | none => none) | none => none) else none) | false => (k false))) | none => none)
noncomputable abbrev zk7 (N : Nat) (x : (List (List AV)) × Int × Int × RT0 × Int) : Option (Bool) := (zcD N).d x
theorem F12_parF (N : Nat) : ParF (zcD N).t := by
  intro x α β k k' r r' h h1
  revert h
  dsimp only [zcD]
  (repeat' (first | (with_reducible refine zg ?_ ?_) | (with_reducible refine zc ?_ ?_) | split)) <;> intro h <;> first | exact h1 _ h | (cases h; done)
theorem F12_text (N : Nat) : TxOk (zt Try.prog) (F12_g N) F12_an (lam N []) Try.f12 (zcD N) := fun x => by kernel_rfl
theorem F12_pat (N : Nat) (a : List AV) (b : List (List AV)) (x : (zcD N).X) (h : (zcD N).pat a b = some x) : a = (zcD N).args x ∧ b = (zcD N).bs x := by
  obtain ⟨v1, c2, rfl, g0⟩ := zb (show zj _ _ = some x from h)
  obtain ⟨c3, rfl, g1⟩ := zJ g0; clear g0
  obtain ⟨c4, c5, rfl, g2⟩ := zb g1; clear g1
  obtain ⟨a0, rfl, g3⟩ := zy g2; clear g2
  obtain ⟨c6, c7, rfl, g4⟩ := zb g3; clear g3
  obtain ⟨a1, rfl, g5⟩ := zi g4; clear g4
  obtain ⟨c8, c9, rfl, g6⟩ := zb g5; clear g5
  obtain ⟨a2, rfl, g7⟩ := zi g6; clear g6
  obtain ⟨rfl, g8⟩ := ze g7; clear g7
  obtain ⟨v10, c11, rfl, g9⟩ := zb g8; clear g8
  obtain ⟨a3, rfl, g10⟩ := j9 g9; clear g9
  obtain ⟨v12, c13, rfl, g11⟩ := zb g10; clear g10
  obtain ⟨a4, rfl, g12⟩ := zi g11; clear g11
  obtain ⟨rfl, g13⟩ := ze g12; clear g12
  obtain ⟨rfl, g14⟩ := ze g13; clear g13
  clear h
  cases g14
  exact ⟨rfl, rfl⟩
noncomputable def F12_e (N : Nat) : Ent Try.prog := zB (zf Try.prog) (zk _) zm 12 Try.f12 Try.func12 rfl F12_an (lam N []) (zp (l := []) an (by kernel_rfl)) (zcD N) (fun _ => ⟨rfl, rfl⟩) (F12_text N) (F12_pat N) (F12_parF N)
def zI : Nat → Keep × Keep := anF [(14, ⟨[5, 7, 9, 14, 15, 16, 17, 18, 44, 45], [], [5, 7, 9, 14, 15, 37, 40], [(3, 25), (43, 1)], [((14, 0), 30)], [], [], [37, 40], false⟩, ⟨[5, 7, 9, 14, 15, 16, 17, 18], [], [5, 7, 9, 14, 15, 37, 40], [(3, 25)], [((14, 0), 30)], [], [], [37, 40], false⟩), (19, ⟨[5, 7, 9, 14, 15, 16, 17, 18, 44, 45], [], [5, 7, 9, 14, 15, 37, 40], [(3, 25), (43, 1)], [((14, 0), 30)], [], [], [37, 40], true⟩, ⟨[5, 7, 9, 14, 15, 16, 17, 18, 44, 45], [], [5, 7, 9, 14, 15, 37, 40], [(3, 25), (43, 1)], [((14, 0), 30)], [], [], [37, 40], false⟩), (28, ⟨[5, 7, 9, 14, 15, 16, 17, 18, 20, 21, 22, 44, 45, 58], [], [5, 7, 9, 14, 15, 37, 40], [(3, 25), (43, 1)], [((14, 0), 30)], [], [], [37, 40], true⟩, ⟨[5, 7, 9, 14, 15, 16, 17, 18, 20, 21, 22, 44, 45], [], [5, 7, 9, 14, 15, 37, 40], [(3, 25), (43, 1)], [((14, 0), 30)], [], [], [37, 40], false⟩), (33, ⟨[5, 7, 9, 14, 15, 16, 17, 18, 20, 21, 22, 44, 45, 76], [], [5, 7, 9, 14, 15, 37, 40], [(3, 25), (43, 1)], [((14, 0), 30)], [], [], [37, 40], true⟩, ⟨[5, 7, 9, 14, 15, 16, 17, 18, 44, 45], [], [5, 7, 9, 14, 15, 37, 40], [(3, 25), (43, 1)], [((14, 0), 30)], [], [], [37, 40], false⟩), (35, ⟨[5, 7, 9, 14, 15, 16, 17, 18, 20, 21, 22, 44, 45], [], [5, 7, 9, 14, 15, 37, 40], [(3, 25), (43, 1)], [((14, 0), 30)], [], [], [37, 40], true⟩, ⟨[5, 7, 9, 14, 15, 16, 17, 18, 44, 45], [], [5, 7, 9, 14, 15, 37, 40], [(3, 25), (43, 1)], [((14, 0), 30)], [], [], [37, 40], false⟩), (41, ⟨[5, 7, 9, 14, 15, 16, 18, 136, 137], [], [5, 7, 9, 14, 15, 40], [(135, 25)], [((14, 0), 30)], [(17, 38)], [], [40], false⟩, ⟨[14, 15], [], [14, 15], [], [((14, 0), 30)], [(17, 38)], [], [], false⟩)] [(100036, ([17], []))]
noncomputable def zgv (N : Nat) : GamK := gam (P := Try.prog) [F27_e N, F30a_e N, F19_e N, F31_e N, F28_e N, F32_e N, F29_e N, F12_e N]
noncomputable def zR (N : Nat) : LSpec where
  X := Nat × (List (List AV)) × Nat × Int × Int × (List (List AV)) × Int × Int × Int × Int × (List (List AV)) × Bool × (List AV) × (List AV)
  Y := (Nat × (List (List AV)) × Bool × (List AV))
  p := fun s => pNat s.env.length 179 <| pNat s.nin 0 <| pVs0 1000017 38 (s.at 17) fun a0 => pLst 25 (s.at 135) fun a1 => pPtr 5 0 (s.at 5) <| pPtr 7 0 (s.at 7) <| pPtr 9 0 (s.at 9) <| pPtr 14 0 (s.at 14) <| pPtr 15 0 (s.at 15) <| pFn 28 (s.at 16) fun c10 c11 => pEnd c10 <| zj c11 fun c13 c14 => pPtr 15 0 c13 <| zj c14 fun c15 c16 => pPtr 7 0 c15 <| zj c16 fun c17 c18 => pPtr 14 0 c17 <| zj c18 fun c19 c20 => pPtr 9 0 c19 <| pEnd c20 <| pVs0 40 1 (s.at 18) fun a2 => pInt .i64 (s.at 136) fun a3 => pInt .i64 (s.at 137) fun a4 => zT (s.bx 5) fun c24 => zj c24 fun c26 c27 => pLst 4 c26 fun a5 => zj c27 fun c28 c29 => pInt .i64 c28 fun a6 => zj c29 fun c30 c31 => pInt .i64 c30 fun a7 => pEnd c31 <| zT (s.bx 7) fun c32 => zj c32 fun c34 c35 => pInt .i64 c34 fun a8 => pEnd c35 <| zT (s.bx 9) fun c36 => zj c36 fun c38 c39 => pInt .i64 c38 fun a9 => pEnd c39 <| zT (s.bx 14) fun c40 => zj c40 fun c42 c43 => pTok 30 6403670016 c42 fun a10 => pEnd c43 <| zT (s.bx 15) fun c44 => zj c44 fun c46 c47 => zbf c46 fun a11 => pEnd c47 <| zT (s.bx 40) fun a12 => zT (s.bx 1000017) fun a13 => some (a0, a1, a2, a3, a4, a5, a6, a7, a8, a9, a10, a11, a12, a13)
  st := fun u41 => mkS 179 [(17, (AV.vs 1000017 0 u41.1 38)), (135, (AV.list 25 u41.2.1 none)), (5, (AV.ptr 5 0)), (7, (AV.ptr 7 0)), (9, (AV.ptr 9 0)), (14, (AV.ptr 14 0)), (15, (AV.ptr 15 0)), (16, (AV.fn (.func 28) [] [(AV.ptr 15 0), (AV.ptr 7 0), (AV.ptr 14 0), (AV.ptr 9 0)])), (18, (AV.vs 40 0 u41.2.2.1 1)), (136, (AV.v (.int .i64 u41.2.2.2.1))), (137, (AV.v (.int .i64 u41.2.2.2.2.1)))] [(5, [(AV.list 4 u41.2.2.2.2.2.1 none), (AV.v (.int .i64 u41.2.2.2.2.2.2.1)), (AV.v (.int .i64 u41.2.2.2.2.2.2.2.1))]), (7, [(AV.v (.int .i64 u41.2.2.2.2.2.2.2.2.1))]), (9, [(AV.v (.int .i64 u41.2.2.2.2.2.2.2.2.2.1))]), (14, [(AV.list 30 u41.2.2.2.2.2.2.2.2.2.2.1 (some 6403670016))]), (15, [(AV.v (.bool u41.2.2.2.2.2.2.2.2.2.2.2.1))]), (40, u41.2.2.2.2.2.2.2.2.2.2.2.2.1), (1000017, u41.2.2.2.2.2.2.2.2.2.2.2.2.2)] (zI 41).1.toks 0
  out := fun y => (.exit 3, mkS 179 [(17, (AV.vs 1000017 0 y.1 38)), (14, (AV.ptr 14 0)), (15, (AV.ptr 15 0))] [(14, [(AV.list 30 y.2.1 (some 6403670016))]), (15, [(AV.v (.bool y.2.2.1))]), (1000017, y.2.2.2)] (zI 41).2.toks 0)
  sp := fun y α k => k (.exit 3, mkS 179 [(17, (AV.vs 1000017 0 y.1 38)), (14, (AV.ptr 14 0)), (15, (AV.ptr 15 0))] [(14, [(AV.list 30 y.2.1 (some 6403670016))]), (15, [(AV.v (.bool y.2.2.1))]), (1000017, y.2.2.2)] (zI 41).2.toks 0)
  spe := fun y α k => rfl
  b := fun u41 α kn ke => (match (decide (u41.2.2.2.2.1 < u41.2.2.2.1)) with | true => (if 0 ≤ u41.2.2.2.2.1 then (match u41.2.1[u41.2.2.2.2.1.toNat]? with | some c99 => (match Rrd0 c99 with | some e100 => (if 0 ≤ u41.2.2.2.2.1 ∧ u41.2.2.2.2.1 < (u41.2.2.1 : Int) then (match u41.2.2.2.2.2.2.2.2.2.2.2.2.1[((0 + u41.2.2.2.2.1.toNat) * 1)]? with | some x101 => (match x101 with | .v (.bool b102) => (match (!b102) with | true => (match zk7 N (u41.2.2.2.2.2.1, u41.2.2.2.2.2.2.1, u41.2.2.2.2.2.2.2.1, e100, u41.2.2.2.2.2.2.2.2.2.1) with | some y103 => (match y103 with | true => (match F31_d N (u41.2.2.2.2.2.1, u41.2.2.2.2.2.2.1, u41.2.2.2.2.2.2.2.1, e100) with | some y104 => (match zge N e100 with | some y105 => (if u41.1 * 38 ≤ u41.2.2.2.2.2.2.2.2.2.2.2.2.2.length ∧ (u41.1 + [(Ren3 (u41.2.2.2.2.2.2.2.2.1, false, e100.1, e100.2.1, e100.2.2.1, e100.2.2.2.1, e100.2.2.2.2.1, e100.2.2.2.2.2.1, e100.2.2.2.2.2.2.1, e100.2.2.2.2.2.2.2.1, e100.2.2.2.2.2.2.2.2.1, y104, y105.1, y105.2.1, y105.2.2.1, y105.2.2.2.1, y105.2.2.2.2.1, y105.2.2.2.2.2.1, y105.2.2.2.2.2.2.1, y105.2.2.2.2.2.2.2.1, y105.2.2.2.2.2.2.2.2.1, y105.2.2.2.2.2.2.2.2.2.1, y105.2.2.2.2.2.2.2.2.2.2.1, y105.2.2.2.2.2.2.2.2.2.2.2.1, y105.2.2.2.2.2.2.2.2.2.2.2.2.1, y105.2.2.2.2.2.2.2.2.2.2.2.2.2.1, y105.2.2.2.2.2.2.2.2.2.2.2.2.2.2.1, y105.2.2.2.2.2.2.2.2.2.2.2.2.2.2.2.1, y105.2.2.2.2.2.2.2.2.2.2.2.2.2.2.2.2.1, y105.2.2.2.2.2.2.2.2.2.2.2.2.2.2.2.2.2.1, y105.2.2.2.2.2.2.2.2.2.2.2.2.2.2.2.2.2.2.1, y105.2.2.2.2.2.2.2.2.2.2.2.2.2.2.2.2.2.2.2.1, y105.2.2.2.2.2.2.2.2.2.2.2.2.2.2.2.2.2.2.2.2.1, y105.2.2.2.2.2.2.2.2.2.2.2.2.2.2.2.2.2.2.2.2.2.1, y105.2.2.2.2.2.2.2.2.2.2.2.2.2.2.2.2.2.2.2.2.2.2.1, y105.2.2.2.2.2.2.2.2.2.2.2.2.2.2.2.2.2.2.2.2.2.2.2.1, y105.2.2.2.2.2.2.2.2.2.2.2.2.2.2.2.2.2.2.2.2.2.2.2.2.1, u41.2.2.2.2.2.2.2.2.2.1, ()))].length) * 384 ≤ zl then (match zhw N (1, (u41.2.2.2.2.2.2.2.2.1, false, e100.1, e100.2.1, e100.2.2.1, e100.2.2.2.1, e100.2.2.2.2.1, e100.2.2.2.2.2.1, e100.2.2.2.2.2.2.1, e100.2.2.2.2.2.2.2.1, e100.2.2.2.2.2.2.2.2.1, y104, y105.1, y105.2.1, y105.2.2.1, y105.2.2.2.1, y105.2.2.2.2.1, y105.2.2.2.2.2.1, y105.2.2.2.2.2.2.1, y105.2.2.2.2.2.2.2.1, y105.2.2.2.2.2.2.2.2.1, y105.2.2.2.2.2.2.2.2.2.1, y105.2.2.2.2.2.2.2.2.2.2.1, y105.2.2.2.2.2.2.2.2.2.2.2.1, y105.2.2.2.2.2.2.2.2.2.2.2.2.1, y105.2.2.2.2.2.2.2.2.2.2.2.2.2.1, y105.2.2.2.2.2.2.2.2.2.2.2.2.2.2.1, y105.2.2.2.2.2.2.2.2.2.2.2.2.2.2.2.1, y105.2.2.2.2.2.2.2.2.2.2.2.2.2.2.2.2.1, y105.2.2.2.2.2.2.2.2.2.2.2.2.2.2.2.2.2.1, y105.2.2.2.2.2.2.2.2.2.2.2.2.2.2.2.2.2.2.1, y105.2.2.2.2.2.2.2.2.2.2.2.2.2.2.2.2.2.2.2.1, y105.2.2.2.2.2.2.2.2.2.2.2.2.2.2.2.2.2.2.2.2.1, y105.2.2.2.2.2.2.2.2.2.2.2.2.2.2.2.2.2.2.2.2.2.1, y105.2.2.2.2.2.2.2.2.2.2.2.2.2.2.2.2.2.2.2.2.2.2.1, y105.2.2.2.2.2.2.2.2.2.2.2.2.2.2.2.2.2.2.2.2.2.2.2.1, y105.2.2.2.2.2.2.2.2.2.2.2.2.2.2.2.2.2.2.2.2.2.2.2.2.1, u41.2.2.2.2.2.2.2.2.2.1, ()), u41.2.2.2.2.2.2.2.2.2.2.2.1, u41.2.2.2.2.2.2.2.2.1, u41.2.2.2.2.2.2.2.2.2.2.1, u41.2.2.2.2.2.2.2.2.2.1) with | some y106 => (kn ((u41.1 + [(Ren3 (u41.2.2.2.2.2.2.2.2.1, false, e100.1, e100.2.1, e100.2.2.1, e100.2.2.2.1, e100.2.2.2.2.1, e100.2.2.2.2.2.1, e100.2.2.2.2.2.2.1, e100.2.2.2.2.2.2.2.1, e100.2.2.2.2.2.2.2.2.1, y104, y105.1, y105.2.1, y105.2.2.1, y105.2.2.2.1, y105.2.2.2.2.1, y105.2.2.2.2.2.1, y105.2.2.2.2.2.2.1, y105.2.2.2.2.2.2.2.1, y105.2.2.2.2.2.2.2.2.1, y105.2.2.2.2.2.2.2.2.2.1, y105.2.2.2.2.2.2.2.2.2.2.1, y105.2.2.2.2.2.2.2.2.2.2.2.1, y105.2.2.2.2.2.2.2.2.2.2.2.2.1, y105.2.2.2.2.2.2.2.2.2.2.2.2.2.1, y105.2.2.2.2.2.2.2.2.2.2.2.2.2.2.1, y105.2.2.2.2.2.2.2.2.2.2.2.2.2.2.2.1, y105.2.2.2.2.2.2.2.2.2.2.2.2.2.2.2.2.1, y105.2.2.2.2.2.2.2.2.2.2.2.2.2.2.2.2.2.1, y105.2.2.2.2.2.2.2.2.2.2.2.2.2.2.2.2.2.2.1, y105.2.2.2.2.2.2.2.2.2.2.2.2.2.2.2.2.2.2.2.1, y105.2.2.2.2.2.2.2.2.2.2.2.2.2.2.2.2.2.2.2.2.1, y105.2.2.2.2.2.2.2.2.2.2.2.2.2.2.2.2.2.2.2.2.2.1, y105.2.2.2.2.2.2.2.2.2.2.2.2.2.2.2.2.2.2.2.2.2.2.1, y105.2.2.2.2.2.2.2.2.2.2.2.2.2.2.2.2.2.2.2.2.2.2.2.1, y105.2.2.2.2.2.2.2.2.2.2.2.2.2.2.2.2.2.2.2.2.2.2.2.2.1, u41.2.2.2.2.2.2.2.2.2.1, ()))].length), u41.2.1, u41.2.2.1, u41.2.2.2.1, (i64 (u41.2.2.2.2.1 + 1)), u41.2.2.2.2.2.1, u41.2.2.2.2.2.2.1, u41.2.2.2.2.2.2.2.1, y106.2.1, y106.2.2.2, y106.2.2.1, y106.1, (u41.2.2.2.2.2.2.2.2.2.2.2.2.1.map dat0), ((u41.2.2.2.2.2.2.2.2.2.2.2.2.2.take (u41.1 * 38) ++ [(Ren3 (u41.2.2.2.2.2.2.2.2.1, false, e100.1, e100.2.1, e100.2.2.1, e100.2.2.2.1, e100.2.2.2.2.1, e100.2.2.2.2.2.1, e100.2.2.2.2.2.2.1, e100.2.2.2.2.2.2.2.1, e100.2.2.2.2.2.2.2.2.1, y104, y105.1, y105.2.1, y105.2.2.1, y105.2.2.2.1, y105.2.2.2.2.1, y105.2.2.2.2.2.1, y105.2.2.2.2.2.2.1, y105.2.2.2.2.2.2.2.1, y105.2.2.2.2.2.2.2.2.1, y105.2.2.2.2.2.2.2.2.2.1, y105.2.2.2.2.2.2.2.2.2.2.1, y105.2.2.2.2.2.2.2.2.2.2.2.1, y105.2.2.2.2.2.2.2.2.2.2.2.2.1, y105.2.2.2.2.2.2.2.2.2.2.2.2.2.1, y105.2.2.2.2.2.2.2.2.2.2.2.2.2.2.1, y105.2.2.2.2.2.2.2.2.2.2.2.2.2.2.2.1, y105.2.2.2.2.2.2.2.2.2.2.2.2.2.2.2.2.1, y105.2.2.2.2.2.2.2.2.2.2.2.2.2.2.2.2.2.1, y105.2.2.2.2.2.2.2.2.2.2.2.2.2.2.2.2.2.2.1, y105.2.2.2.2.2.2.2.2.2.2.2.2.2.2.2.2.2.2.2.1, y105.2.2.2.2.2.2.2.2.2.2.2.2.2.2.2.2.2.2.2.2.1, y105.2.2.2.2.2.2.2.2.2.2.2.2.2.2.2.2.2.2.2.2.2.1, y105.2.2.2.2.2.2.2.2.2.2.2.2.2.2.2.2.2.2.2.2.2.2.1, y105.2.2.2.2.2.2.2.2.2.2.2.2.2.2.2.2.2.2.2.2.2.2.2.1, y105.2.2.2.2.2.2.2.2.2.2.2.2.2.2.2.2.2.2.2.2.2.2.2.2.1, u41.2.2.2.2.2.2.2.2.2.1, ()))].flatten).map dat0))) | none => none) else none) | none => none) | none => none) | false => (kn (u41.1, u41.2.1, u41.2.2.1, u41.2.2.2.1, (i64 (u41.2.2.2.2.1 + 1)), u41.2.2.2.2.2.1, u41.2.2.2.2.2.2.1, u41.2.2.2.2.2.2.2.1, u41.2.2.2.2.2.2.2.2.1, u41.2.2.2.2.2.2.2.2.2.1, u41.2.2.2.2.2.2.2.2.2.2.1, u41.2.2.2.2.2.2.2.2.2.2.2.1, (u41.2.2.2.2.2.2.2.2.2.2.2.2.1.map dat0), (u41.2.2.2.2.2.2.2.2.2.2.2.2.2.map dat0)))) | none => none) | false => (kn (u41.1, u41.2.1, u41.2.2.1, u41.2.2.2.1, (i64 (u41.2.2.2.2.1 + 1)), u41.2.2.2.2.2.1, u41.2.2.2.2.2.2.1, u41.2.2.2.2.2.2.2.1, u41.2.2.2.2.2.2.2.2.1, u41.2.2.2.2.2.2.2.2.2.1, u41.2.2.2.2.2.2.2.2.2.2.1, u41.2.2.2.2.2.2.2.2.2.2.2.1, (u41.2.2.2.2.2.2.2.2.2.2.2.2.1.map dat0), (u41.2.2.2.2.2.2.2.2.2.2.2.2.2.map dat0)))) | _ => none) | none => none) else none) | none => none) | none => none) else none) | false => (ke (u41.1, u41.2.2.2.2.2.2.2.2.2.2.1, u41.2.2.2.2.2.2.2.2.2.2.2.1, (u41.2.2.2.2.2.2.2.2.2.2.2.2.2.map dat0))))
noncomputable abbrev zjU (N : Nat) (x : Nat × (List (List AV)) × Nat × Int × Int × (List (List AV)) × Int × Int × Int × Int × (List (List AV)) × Bool × (List AV) × (List AV)) : Option ((Nat × (List (List AV)) × Bool × (List AV))) := (zR N).L N x
noncomputable def Zr (N : Nat) : LSpec where
  X := (List (List AV)) × (List (List AV)) × Nat × Nat × Int × Nat × Int × Int × Int × (List (List AV)) × Int × Int × Int × Int × (List (List AV)) × Bool × (List AV) × (List AV)
  Y := ((List (List AV)) × (List (List AV)) × Nat × Nat × Int × Int × (List (List AV)) × Int × Int × Int × Int × (List (List AV)) × Bool × (List AV) × (List AV))
  p := fun s => pNat s.env.length 179 <| pNat s.nin 0 <| pLst 25 (s.at 3) fun a0 => pLst 1 (s.at 43) fun a1 => pPtr 5 0 (s.at 5) <| pPtr 7 0 (s.at 7) <| pPtr 9 0 (s.at 9) <| pPtr 14 0 (s.at 14) <| pPtr 15 0 (s.at 15) <| pFn 28 (s.at 16) fun c10 c11 => pEnd c10 <| zj c11 fun c13 c14 => pPtr 15 0 c13 <| zj c14 fun c15 c16 => pPtr 7 0 c15 <| zj c16 fun c17 c18 => pPtr 14 0 c17 <| zj c18 fun c19 c20 => pPtr 9 0 c19 <| pEnd c20 <| pVs0 37 38 (s.at 17) fun a2 => pVs0 40 1 (s.at 18) fun a3 => pInt .i64 (s.at 20) fun a4 => zfH 37 (s.at 21) fun a5 => pInt .i64 (s.at 22) fun a6 => pInt .i64 (s.at 44) fun a7 => pInt .i64 (s.at 45) fun a8 => zT (s.bx 5) fun c28 => zj c28 fun c30 c31 => pLst 4 c30 fun a9 => zj c31 fun c32 c33 => pInt .i64 c32 fun a10 => zj c33 fun c34 c35 => pInt .i64 c34 fun a11 => pEnd c35 <| zT (s.bx 7) fun c36 => zj c36 fun c38 c39 => pInt .i64 c38 fun a12 => pEnd c39 <| zT (s.bx 9) fun c40 => zj c40 fun c42 c43 => pInt .i64 c42 fun a13 => pEnd c43 <| zT (s.bx 14) fun c44 => zj c44 fun c46 c47 => pTok 30 6403670016 c46 fun a14 => pEnd c47 <| zT (s.bx 15) fun c48 => zj c48 fun c50 c51 => zbf c50 fun a15 => pEnd c51 <| zT (s.bx 37) fun a16 => zT (s.bx 40) fun a17 => some (a0, a1, a2, a3, a4, a5, a6, a7, a8, a9, a10, a11, a12, a13, a14, a15, a16, a17)
  st := fun u35 => mkS 179 [(3, (AV.list 25 u35.1 none)), (43, (AV.list 1 u35.2.1 none)), (5, (AV.ptr 5 0)), (7, (AV.ptr 7 0)), (9, (AV.ptr 9 0)), (14, (AV.ptr 14 0)), (15, (AV.ptr 15 0)), (16, (AV.fn (.func 28) [] [(AV.ptr 15 0), (AV.ptr 7 0), (AV.ptr 14 0), (AV.ptr 9 0)])), (17, (AV.vs 37 0 u35.2.2.1 38)), (18, (AV.vs 40 0 u35.2.2.2.1 1)), (20, (AV.v (.int .i64 u35.2.2.2.2.1))), (21, (AV.ptr 37 u35.2.2.2.2.2.1)), (22, (AV.v (.int .i64 u35.2.2.2.2.2.2.1))), (44, (AV.v (.int .i64 u35.2.2.2.2.2.2.2.1))), (45, (AV.v (.int .i64 u35.2.2.2.2.2.2.2.2.1)))] [(5, [(AV.list 4 u35.2.2.2.2.2.2.2.2.2.1 none), (AV.v (.int .i64 u35.2.2.2.2.2.2.2.2.2.2.1)), (AV.v (.int .i64 u35.2.2.2.2.2.2.2.2.2.2.2.1))]), (7, [(AV.v (.int .i64 u35.2.2.2.2.2.2.2.2.2.2.2.2.1))]), (9, [(AV.v (.int .i64 u35.2.2.2.2.2.2.2.2.2.2.2.2.2.1))]), (14, [(AV.list 30 u35.2.2.2.2.2.2.2.2.2.2.2.2.2.2.1 (some 6403670016))]), (15, [(AV.v (.bool u35.2.2.2.2.2.2.2.2.2.2.2.2.2.2.2.1))]), (37, u35.2.2.2.2.2.2.2.2.2.2.2.2.2.2.2.2.1), (40, u35.2.2.2.2.2.2.2.2.2.2.2.2.2.2.2.2.2)] (zI 35).1.toks 0
  out := fun y => (.normal, mkS 179 [(3, (AV.list 25 y.1 none)), (43, (AV.list 1 y.2.1 none)), (5, (AV.ptr 5 0)), (7, (AV.ptr 7 0)), (9, (AV.ptr 9 0)), (14, (AV.ptr 14 0)), (15, (AV.ptr 15 0)), (16, (AV.fn (.func 28) [] [(AV.ptr 15 0), (AV.ptr 7 0), (AV.ptr 14 0), (AV.ptr 9 0)])), (17, (AV.vs 37 0 y.2.2.1 38)), (18, (AV.vs 40 0 y.2.2.2.1 1)), (44, (AV.v (.int .i64 y.2.2.2.2.1))), (45, (AV.v (.int .i64 y.2.2.2.2.2.1)))] [(5, [(AV.list 4 y.2.2.2.2.2.2.1 none), (AV.v (.int .i64 y.2.2.2.2.2.2.2.1)), (AV.v (.int .i64 y.2.2.2.2.2.2.2.2.1))]), (7, [(AV.v (.int .i64 y.2.2.2.2.2.2.2.2.2.1))]), (9, [(AV.v (.int .i64 y.2.2.2.2.2.2.2.2.2.2.1))]), (14, [(AV.list 30 y.2.2.2.2.2.2.2.2.2.2.2.1 (some 6403670016))]), (15, [(AV.v (.bool y.2.2.2.2.2.2.2.2.2.2.2.2.1))]), (37, y.2.2.2.2.2.2.2.2.2.2.2.2.2.1), (40, y.2.2.2.2.2.2.2.2.2.2.2.2.2.2)] (zI 35).2.toks 0)
  sp := fun y α k => k (.normal, mkS 179 [(3, (AV.list 25 y.1 none)), (43, (AV.list 1 y.2.1 none)), (5, (AV.ptr 5 0)), (7, (AV.ptr 7 0)), (9, (AV.ptr 9 0)), (14, (AV.ptr 14 0)), (15, (AV.ptr 15 0)), (16, (AV.fn (.func 28) [] [(AV.ptr 15 0), (AV.ptr 7 0), (AV.ptr 14 0), (AV.ptr 9 0)])), (17, (AV.vs 37 0 y.2.2.1 38)), (18, (AV.vs 40 0 y.2.2.2.1 1)), (44, (AV.v (.int .i64 y.2.2.2.2.1))), (45, (AV.v (.int .i64 y.2.2.2.2.2.1)))] [(5, [(AV.list 4 y.2.2.2.2.2.2.1 none), (AV.v (.int .i64 y.2.2.2.2.2.2.2.1)), (AV.v (.int .i64 y.2.2.2.2.2.2.2.2.1))]), (7, [(AV.v (.int .i64 y.2.2.2.2.2.2.2.2.2.1))]), (9, [(AV.v (.int .i64 y.2.2.2.2.2.2.2.2.2.2.1))]), (14, [(AV.list 30 y.2.2.2.2.2.2.2.2.2.2.2.1 (some 6403670016))]), (15, [(AV.v (.bool y.2.2.2.2.2.2.2.2.2.2.2.2.1))]), (37, y.2.2.2.2.2.2.2.2.2.2.2.2.2.1), (40, y.2.2.2.2.2.2.2.2.2.2.2.2.2.2)] (zI 35).2.toks 0)
  spe := fun y α k => rfl
  b := fun u35 α kn ke => (match u35.2.2.2.2.2.2.2.2.2.2.2.2.2.2.2.2.1[(u35.2.2.2.2.2.1 + 37)]? with | some x52 => (match x52 with | .v (.int q54 n53) => (if q54 = .i64 then (match (decide ((i64 (u35.2.2.2.2.2.2.2.2.2.2.2.2.2.1 - n53)) ≥ u35.2.2.2.2.2.2.2.2.2.2.2.1)) with | true => (match Rrd0 (u35.2.2.2.2.2.2.2.2.2.2.2.2.2.2.2.2.1.drop (u35.2.2.2.2.2.1 + 12)) with | some e55 => (if 0 ≤ u35.2.2.2.2.1 then (match u35.1[u35.2.2.2.2.1.toNat]? with | some c56 => (match Rrd0 c56 with | some e57 => (match zlZ N (u35.2.2.2.2.2.2.2.2.2.1, u35.2.2.2.2.2.2.2.2.2.2.1, u35.2.2.2.2.2.2.2.2.2.2.2.1, e55, e57) with | some y58 => (match y58 with | true => (if 0 ≤ u35.2.2.2.2.1 then (match u35.1[u35.2.2.2.2.1.toNat]? with | some c59 => (match Rrd0 c59 with | some e60 => (match zge N e60 with | some y61 => (if (u35.2.2.2.2.2.1 + 11) + 1 ≤ u35.2.2.2.2.2.2.2.2.2.2.2.2.2.2.2.2.1.length then (if (u35.2.2.2.2.2.1 + 12) + 25 ≤ (splice u35.2.2.2.2.2.2.2.2.2.2.2.2.2.2.2.2.1 (u35.2.2.2.2.2.1 + 11) [(AV.v (.int .i64 u35.2.2.2.2.2.2.1))]).length then (if (u35.2.2.2.2.2.1 + 37) + 1 ≤ (splice (splice u35.2.2.2.2.2.2.2.2.2.2.2.2.2.2.2.2.1 (u35.2.2.2.2.2.1 + 11) [(AV.v (.int .i64 u35.2.2.2.2.2.2.1))]) (u35.2.2.2.2.2.1 + 12) (Ren0 y61)).length then (match Rrd3 ((splice (splice (splice u35.2.2.2.2.2.2.2.2.2.2.2.2.2.2.2.2.1 (u35.2.2.2.2.2.1 + 11) [(AV.v (.int .i64 u35.2.2.2.2.2.2.1))]) (u35.2.2.2.2.2.1 + 12) (Ren0 y61)) (u35.2.2.2.2.2.1 + 37) [(AV.v (.int .i64 u35.2.2.2.2.2.2.2.2.2.2.2.2.2.1))]).drop u35.2.2.2.2.2.1) with | some e62 => (match zhw N (2, e62, u35.2.2.2.2.2.2.2.2.2.2.2.2.2.2.2.1, u35.2.2.2.2.2.2.2.2.2.2.2.2.1, u35.2.2.2.2.2.2.2.2.2.2.2.2.2.2.1, u35.2.2.2.2.2.2.2.2.2.2.2.2.2.1) with | some y63 => (ke (u35.1, u35.2.1, u35.2.2.1, u35.2.2.2.1, u35.2.2.2.2.2.2.2.1, u35.2.2.2.2.2.2.2.2.1, u35.2.2.2.2.2.2.2.2.2.1, u35.2.2.2.2.2.2.2.2.2.2.1, u35.2.2.2.2.2.2.2.2.2.2.2.1, y63.2.1, y63.2.2.2, y63.2.2.1, y63.1, ((splice (splice (splice u35.2.2.2.2.2.2.2.2.2.2.2.2.2.2.2.2.1 (u35.2.2.2.2.2.1 + 11) [(AV.v (.int .i64 u35.2.2.2.2.2.2.1))]) (u35.2.2.2.2.2.1 + 12) (Ren0 y61)) (u35.2.2.2.2.2.1 + 37) [(AV.v (.int .i64 u35.2.2.2.2.2.2.2.2.2.2.2.2.2.1))]).map dat0), (u35.2.2.2.2.2.2.2.2.2.2.2.2.2.2.2.2.2.map dat0))) | none => none) | none => none) else none) else none) else none) | none => none) | none => none) | none => none) else none) | false => (ke (u35.1, u35.2.1, u35.2.2.1, u35.2.2.2.1, u35.2.2.2.2.2.2.2.1, u35.2.2.2.2.2.2.2.2.1, u35.2.2.2.2.2.2.2.2.2.1, u35.2.2.2.2.2.2.2.2.2.2.1, u35.2.2.2.2.2.2.2.2.2.2.2.1, u35.2.2.2.2.2.2.2.2.2.2.2.2.1, u35.2.2.2.2.2.2.2.2.2.2.2.2.2.1, u35.2.2.2.2.2.2.2.2.2.2.2.2.2.2.1, u35.2.2.2.2.2.2.2.2.2.2.2.2.2.2.2.1, (u35.2.2.2.2.2.2.2.2.2.2.2.2.2.2.2.2.1.map dat0), (u35.2.2.2.2.2.2.2.2.2.2.2.2.2.2.2.2.2.map dat0)))) | none => none) | none => none) | none => none) else none) | none => none) | false => (ke (u35.1, u35.2.1, u35.2.2.1, u35.2.2.2.1, u35.2.2.2.2.2.2.2.1, u35.2.2.2.2.2.2.2.2.1, u35.2.2.2.2.2.2.2.2.2.1, u35.2.2.2.2.2.2.2.2.2.2.1, u35.2.2.2.2.2.2.2.2.2.2.2.1, u35.2.2.2.2.2.2.2.2.2.2.2.2.1, u35.2.2.2.2.2.2.2.2.2.2.2.2.2.1, u35.2.2.2.2.2.2.2.2.2.2.2.2.2.2.1, u35.2.2.2.2.2.2.2.2.2.2.2.2.2.2.2.1, (u35.2.2.2.2.2.2.2.2.2.2.2.2.2.2.2.2.1.map dat0), (u35.2.2.2.2.2.2.2.2.2.2.2.2.2.2.2.2.2.map dat0)))) else none) | _ => none) | none => none)
noncomputable abbrev zmT (N : Nat) (x : (List (List AV)) × (List (List AV)) × Nat × Nat × Int × Nat × Int × Int × Int × (List (List AV)) × Int × Int × Int × Int × (List (List AV)) × Bool × (List AV) × (List AV)) : Option (((List (List AV)) × (List (List AV)) × Nat × Nat × Int × Int × (List (List AV)) × Int × Int × Int × Int × (List (List AV)) × Bool × (List AV) × (List AV))) := (Zr N).L N x
noncomputable def Zq (N : Nat) : LSpec where
  X := (List (List AV)) × (List (List AV)) × Nat × Nat × Int × Nat × Int × Int × Int × Bool × (List (List AV)) × Int × Int × Int × Int × (List (List AV)) × Bool × (List AV) × (List AV)
  Y := ((List (List AV)) × (List (List AV)) × Nat × Nat × Int × Int × (List (List AV)) × Int × Int × Int × Int × (List (List AV)) × Bool × (List AV) × (List AV))
  p := fun s => pNat s.env.length 179 <| pNat s.nin 0 <| pLst 25 (s.at 3) fun a0 => pLst 1 (s.at 43) fun a1 => pPtr 5 0 (s.at 5) <| pPtr 7 0 (s.at 7) <| pPtr 9 0 (s.at 9) <| pPtr 14 0 (s.at 14) <| pPtr 15 0 (s.at 15) <| pFn 28 (s.at 16) fun c10 c11 => pEnd c10 <| zj c11 fun c13 c14 => pPtr 15 0 c13 <| zj c14 fun c15 c16 => pPtr 7 0 c15 <| zj c16 fun c17 c18 => pPtr 14 0 c17 <| zj c18 fun c19 c20 => pPtr 9 0 c19 <| pEnd c20 <| pVs0 37 38 (s.at 17) fun a2 => pVs0 40 1 (s.at 18) fun a3 => pInt .i64 (s.at 20) fun a4 => zfH 37 (s.at 21) fun a5 => pInt .i64 (s.at 22) fun a6 => pInt .i64 (s.at 44) fun a7 => pInt .i64 (s.at 45) fun a8 => zbf (s.at 76) fun a9 => zT (s.bx 5) fun c29 => zj c29 fun c31 c32 => pLst 4 c31 fun a10 => zj c32 fun c33 c34 => pInt .i64 c33 fun a11 => zj c34 fun c35 c36 => pInt .i64 c35 fun a12 => pEnd c36 <| zT (s.bx 7) fun c37 => zj c37 fun c39 c40 => pInt .i64 c39 fun a13 => pEnd c40 <| zT (s.bx 9) fun c41 => zj c41 fun c43 c44 => pInt .i64 c43 fun a14 => pEnd c44 <| zT (s.bx 14) fun c45 => zj c45 fun c47 c48 => pTok 30 6403670016 c47 fun a15 => pEnd c48 <| zT (s.bx 15) fun c49 => zj c49 fun c51 c52 => zbf c51 fun a16 => pEnd c52 <| zT (s.bx 37) fun a17 => zT (s.bx 40) fun a18 => some (a0, a1, a2, a3, a4, a5, a6, a7, a8, a9, a10, a11, a12, a13, a14, a15, a16, a17, a18)
  st := fun u33 => mkS 179 [(3, (AV.list 25 u33.1 none)), (43, (AV.list 1 u33.2.1 none)), (5, (AV.ptr 5 0)), (7, (AV.ptr 7 0)), (9, (AV.ptr 9 0)), (14, (AV.ptr 14 0)), (15, (AV.ptr 15 0)), (16, (AV.fn (.func 28) [] [(AV.ptr 15 0), (AV.ptr 7 0), (AV.ptr 14 0), (AV.ptr 9 0)])), (17, (AV.vs 37 0 u33.2.2.1 38)), (18, (AV.vs 40 0 u33.2.2.2.1 1)), (20, (AV.v (.int .i64 u33.2.2.2.2.1))), (21, (AV.ptr 37 u33.2.2.2.2.2.1)), (22, (AV.v (.int .i64 u33.2.2.2.2.2.2.1))), (44, (AV.v (.int .i64 u33.2.2.2.2.2.2.2.1))), (45, (AV.v (.int .i64 u33.2.2.2.2.2.2.2.2.1))), (76, (AV.v (.bool u33.2.2.2.2.2.2.2.2.2.1)))] [(5, [(AV.list 4 u33.2.2.2.2.2.2.2.2.2.2.1 none), (AV.v (.int .i64 u33.2.2.2.2.2.2.2.2.2.2.2.1)), (AV.v (.int .i64 u33.2.2.2.2.2.2.2.2.2.2.2.2.1))]), (7, [(AV.v (.int .i64 u33.2.2.2.2.2.2.2.2.2.2.2.2.2.1))]), (9, [(AV.v (.int .i64 u33.2.2.2.2.2.2.2.2.2.2.2.2.2.2.1))]), (14, [(AV.list 30 u33.2.2.2.2.2.2.2.2.2.2.2.2.2.2.2.1 (some 6403670016))]), (15, [(AV.v (.bool u33.2.2.2.2.2.2.2.2.2.2.2.2.2.2.2.2.1))]), (37, u33.2.2.2.2.2.2.2.2.2.2.2.2.2.2.2.2.2.1), (40, u33.2.2.2.2.2.2.2.2.2.2.2.2.2.2.2.2.2.2)] (zI 33).1.toks 0
  out := fun y => (.normal, mkS 179 [(3, (AV.list 25 y.1 none)), (43, (AV.list 1 y.2.1 none)), (5, (AV.ptr 5 0)), (7, (AV.ptr 7 0)), (9, (AV.ptr 9 0)), (14, (AV.ptr 14 0)), (15, (AV.ptr 15 0)), (16, (AV.fn (.func 28) [] [(AV.ptr 15 0), (AV.ptr 7 0), (AV.ptr 14 0), (AV.ptr 9 0)])), (17, (AV.vs 37 0 y.2.2.1 38)), (18, (AV.vs 40 0 y.2.2.2.1 1)), (44, (AV.v (.int .i64 y.2.2.2.2.1))), (45, (AV.v (.int .i64 y.2.2.2.2.2.1)))] [(5, [(AV.list 4 y.2.2.2.2.2.2.1 none), (AV.v (.int .i64 y.2.2.2.2.2.2.2.1)), (AV.v (.int .i64 y.2.2.2.2.2.2.2.2.1))]), (7, [(AV.v (.int .i64 y.2.2.2.2.2.2.2.2.2.1))]), (9, [(AV.v (.int .i64 y.2.2.2.2.2.2.2.2.2.2.1))]), (14, [(AV.list 30 y.2.2.2.2.2.2.2.2.2.2.2.1 (some 6403670016))]), (15, [(AV.v (.bool y.2.2.2.2.2.2.2.2.2.2.2.2.1))]), (37, y.2.2.2.2.2.2.2.2.2.2.2.2.2.1), (40, y.2.2.2.2.2.2.2.2.2.2.2.2.2.2)] (zI 33).2.toks 0)
  sp := fun y α k => k (.normal, mkS 179 [(3, (AV.list 25 y.1 none)), (43, (AV.list 1 y.2.1 none)), (5, (AV.ptr 5 0)), (7, (AV.ptr 7 0)), (9, (AV.ptr 9 0)), (14, (AV.ptr 14 0)), (15, (AV.ptr 15 0)), (16, (AV.fn (.func 28) [] [(AV.ptr 15 0), (AV.ptr 7 0), (AV.ptr 14 0), (AV.ptr 9 0)])), (17, (AV.vs 37 0 y.2.2.1 38)), (18, (AV.vs 40 0 y.2.2.2.1 1)), (44, (AV.v (.int .i64 y.2.2.2.2.1))), (45, (AV.v (.int .i64 y.2.2.2.2.2.1)))] [(5, [(AV.list 4 y.2.2.2.2.2.2.1 none), (AV.v (.int .i64 y.2.2.2.2.2.2.2.1)), (AV.v (.int .i64 y.2.2.2.2.2.2.2.2.1))]), (7, [(AV.v (.int .i64 y.2.2.2.2.2.2.2.2.2.1))]), (9, [(AV.v (.int .i64 y.2.2.2.2.2.2.2.2.2.2.1))]), (14, [(AV.list 30 y.2.2.2.2.2.2.2.2.2.2.2.1 (some 6403670016))]), (15, [(AV.v (.bool y.2.2.2.2.2.2.2.2.2.2.2.2.1))]), (37, y.2.2.2.2.2.2.2.2.2.2.2.2.2.1), (40, y.2.2.2.2.2.2.2.2.2.2.2.2.2.2)] (zI 33).2.toks 0)
  spe := fun y α k => rfl
  b := fun u33 α kn ke => (match u33.2.2.2.2.2.2.2.2.2.1 with | true => (if (u33.2.2.2.2.2.1 + 1) + 1 ≤ u33.2.2.2.2.2.2.2.2.2.2.2.2.2.2.2.2.2.1.length then (if (u33.2.2.2.2.2.1 + 37) + 1 ≤ (splice u33.2.2.2.2.2.2.2.2.2.2.2.2.2.2.2.2.2.1 (u33.2.2.2.2.2.1 + 1) [(AV.v (.bool true))]).length then (match Rrd3 ((splice (splice u33.2.2.2.2.2.2.2.2.2.2.2.2.2.2.2.2.2.1 (u33.2.2.2.2.2.1 + 1) [(AV.v (.bool true))]) (u33.2.2.2.2.2.1 + 37) [(AV.v (.int .i64 u33.2.2.2.2.2.2.2.2.2.2.2.2.2.2.1))]).drop u33.2.2.2.2.2.1) with | some e68 => (match zhw N (3, e68, u33.2.2.2.2.2.2.2.2.2.2.2.2.2.2.2.2.1, u33.2.2.2.2.2.2.2.2.2.2.2.2.2.1, u33.2.2.2.2.2.2.2.2.2.2.2.2.2.2.2.1, u33.2.2.2.2.2.2.2.2.2.2.2.2.2.2.1) with | some y69 => (ke (u33.1, u33.2.1, u33.2.2.1, u33.2.2.2.1, u33.2.2.2.2.2.2.2.1, u33.2.2.2.2.2.2.2.2.1, u33.2.2.2.2.2.2.2.2.2.2.1, u33.2.2.2.2.2.2.2.2.2.2.2.1, u33.2.2.2.2.2.2.2.2.2.2.2.2.1, y69.2.1, y69.2.2.2, y69.2.2.1, y69.1, ((splice (splice u33.2.2.2.2.2.2.2.2.2.2.2.2.2.2.2.2.2.1 (u33.2.2.2.2.2.1 + 1) [(AV.v (.bool true))]) (u33.2.2.2.2.2.1 + 37) [(AV.v (.int .i64 u33.2.2.2.2.2.2.2.2.2.2.2.2.2.2.1))]).map dat0), (u33.2.2.2.2.2.2.2.2.2.2.2.2.2.2.2.2.2.2.map dat0))) | none => none) | none => none) else none) else none) | false => (match zmT N (u33.1, u33.2.1, u33.2.2.1, u33.2.2.2.1, u33.2.2.2.2.1, u33.2.2.2.2.2.1, u33.2.2.2.2.2.2.1, u33.2.2.2.2.2.2.2.1, u33.2.2.2.2.2.2.2.2.1, u33.2.2.2.2.2.2.2.2.2.2.1, u33.2.2.2.2.2.2.2.2.2.2.2.1, u33.2.2.2.2.2.2.2.2.2.2.2.2.1, u33.2.2.2.2.2.2.2.2.2.2.2.2.2.1, u33.2.2.2.2.2.2.2.2.2.2.2.2.2.2.1, u33.2.2.2.2.2.2.2.2.2.2.2.2.2.2.2.1, u33.2.2.2.2.2.2.2.2.2.2.2.2.2.2.2.2.1, (u33.2.2.2.2.2.2.2.2.2.2.2.2.2.2.2.2.2.1.map dat0), (u33.2.2.2.2.2.2.2.2.2.2.2.2.2.2.2.2.2.2.map dat0)) with | some y70 => (ke (y70.1, y70.2.1, y70.2.2.1, y70.2.2.2.1, y70.2.2.2.2.1, y70.2.2.2.2.2.1, y70.2.2.2.2.2.2.1, y70.2.2.2.2.2.2.2.1, y70.2.2.2.2.2.2.2.2.1, y70.2.2.2.2.2.2.2.2.2.1, y70.2.2.2.2.2.2.2.2.2.2.1, y70.2.2.2.2.2.2.2.2.2.2.2.1, y70.2.2.2.2.2.2.2.2.2.2.2.2.1, (y70.2.2.2.2.2.2.2.2.2.2.2.2.2.1.map dat0), (y70.2.2.2.2.2.2.2.2.2.2.2.2.2.2.map dat0))) | none => none))
noncomputable abbrev zfS (N : Nat) (x : (List (List AV)) × (List (List AV)) × Nat × Nat × Int × Nat × Int × Int × Int × Bool × (List (List AV)) × Int × Int × Int × Int × (List (List AV)) × Bool × (List AV) × (List AV)) : Option (((List (List AV)) × (List (List AV)) × Nat × Nat × Int × Int × (List (List AV)) × Int × Int × Int × Int × (List (List AV)) × Bool × (List AV) × (List AV))) := (Zq N).L N x
noncomputable def ZN (N : Nat) : LSpec where
  X := (List (List AV)) × (List (List AV)) × Nat × Nat × Int × Nat × Int × Int × Int × Bool × (List (List AV)) × Int × Int × Int × Int × (List (List AV)) × Bool × (List AV) × (List AV)
  Y := ((List (List AV)) × (List (List AV)) × Nat × Nat × Int × Nat × Int × Int × Int × (List (List AV)) × Int × Int × Int × Int × (List (List AV)) × Bool × (List AV) × (List AV))
  p := fun s => pNat s.env.length 179 <| pNat s.nin 0 <| pLst 25 (s.at 3) fun a0 => pLst 1 (s.at 43) fun a1 => pPtr 5 0 (s.at 5) <| pPtr 7 0 (s.at 7) <| pPtr 9 0 (s.at 9) <| pPtr 14 0 (s.at 14) <| pPtr 15 0 (s.at 15) <| pFn 28 (s.at 16) fun c10 c11 => pEnd c10 <| zj c11 fun c13 c14 => pPtr 15 0 c13 <| zj c14 fun c15 c16 => pPtr 7 0 c15 <| zj c16 fun c17 c18 => pPtr 14 0 c17 <| zj c18 fun c19 c20 => pPtr 9 0 c19 <| pEnd c20 <| pVs0 37 38 (s.at 17) fun a2 => pVs0 40 1 (s.at 18) fun a3 => pInt .i64 (s.at 20) fun a4 => zfH 37 (s.at 21) fun a5 => pInt .i64 (s.at 22) fun a6 => pInt .i64 (s.at 44) fun a7 => pInt .i64 (s.at 45) fun a8 => zbf (s.at 58) fun a9 => zT (s.bx 5) fun c29 => zj c29 fun c31 c32 => pLst 4 c31 fun a10 => zj c32 fun c33 c34 => pInt .i64 c33 fun a11 => zj c34 fun c35 c36 => pInt .i64 c35 fun a12 => pEnd c36 <| zT (s.bx 7) fun c37 => zj c37 fun c39 c40 => pInt .i64 c39 fun a13 => pEnd c40 <| zT (s.bx 9) fun c41 => zj c41 fun c43 c44 => pInt .i64 c43 fun a14 => pEnd c44 <| zT (s.bx 14) fun c45 => zj c45 fun c47 c48 => pTok 30 6403670016 c47 fun a15 => pEnd c48 <| zT (s.bx 15) fun c49 => zj c49 fun c51 c52 => zbf c51 fun a16 => pEnd c52 <| zT (s.bx 37) fun a17 => zT (s.bx 40) fun a18 => some (a0, a1, a2, a3, a4, a5, a6, a7, a8, a9, a10, a11, a12, a13, a14, a15, a16, a17, a18)
  st := fun u28 => mkS 179 [(3, (AV.list 25 u28.1 none)), (43, (AV.list 1 u28.2.1 none)), (5, (AV.ptr 5 0)), (7, (AV.ptr 7 0)), (9, (AV.ptr 9 0)), (14, (AV.ptr 14 0)), (15, (AV.ptr 15 0)), (16, (AV.fn (.func 28) [] [(AV.ptr 15 0), (AV.ptr 7 0), (AV.ptr 14 0), (AV.ptr 9 0)])), (17, (AV.vs 37 0 u28.2.2.1 38)), (18, (AV.vs 40 0 u28.2.2.2.1 1)), (20, (AV.v (.int .i64 u28.2.2.2.2.1))), (21, (AV.ptr 37 u28.2.2.2.2.2.1)), (22, (AV.v (.int .i64 u28.2.2.2.2.2.2.1))), (44, (AV.v (.int .i64 u28.2.2.2.2.2.2.2.1))), (45, (AV.v (.int .i64 u28.2.2.2.2.2.2.2.2.1))), (58, (AV.v (.bool u28.2.2.2.2.2.2.2.2.2.1)))] [(5, [(AV.list 4 u28.2.2.2.2.2.2.2.2.2.2.1 none), (AV.v (.int .i64 u28.2.2.2.2.2.2.2.2.2.2.2.1)), (AV.v (.int .i64 u28.2.2.2.2.2.2.2.2.2.2.2.2.1))]), (7, [(AV.v (.int .i64 u28.2.2.2.2.2.2.2.2.2.2.2.2.2.1))]), (9, [(AV.v (.int .i64 u28.2.2.2.2.2.2.2.2.2.2.2.2.2.2.1))]), (14, [(AV.list 30 u28.2.2.2.2.2.2.2.2.2.2.2.2.2.2.2.1 (some 6403670016))]), (15, [(AV.v (.bool u28.2.2.2.2.2.2.2.2.2.2.2.2.2.2.2.2.1))]), (37, u28.2.2.2.2.2.2.2.2.2.2.2.2.2.2.2.2.2.1), (40, u28.2.2.2.2.2.2.2.2.2.2.2.2.2.2.2.2.2.2)] (zI 28).1.toks 0
  out := fun y => (.normal, mkS 179 [(3, (AV.list 25 y.1 none)), (43, (AV.list 1 y.2.1 none)), (5, (AV.ptr 5 0)), (7, (AV.ptr 7 0)), (9, (AV.ptr 9 0)), (14, (AV.ptr 14 0)), (15, (AV.ptr 15 0)), (16, (AV.fn (.func 28) [] [(AV.ptr 15 0), (AV.ptr 7 0), (AV.ptr 14 0), (AV.ptr 9 0)])), (17, (AV.vs 37 0 y.2.2.1 38)), (18, (AV.vs 40 0 y.2.2.2.1 1)), (20, (AV.v (.int .i64 y.2.2.2.2.1))), (21, (AV.ptr 37 y.2.2.2.2.2.1)), (22, (AV.v (.int .i64 y.2.2.2.2.2.2.1))), (44, (AV.v (.int .i64 y.2.2.2.2.2.2.2.1))), (45, (AV.v (.int .i64 y.2.2.2.2.2.2.2.2.1)))] [(5, [(AV.list 4 y.2.2.2.2.2.2.2.2.2.1 none), (AV.v (.int .i64 y.2.2.2.2.2.2.2.2.2.2.1)), (AV.v (.int .i64 y.2.2.2.2.2.2.2.2.2.2.2.1))]), (7, [(AV.v (.int .i64 y.2.2.2.2.2.2.2.2.2.2.2.2.1))]), (9, [(AV.v (.int .i64 y.2.2.2.2.2.2.2.2.2.2.2.2.2.1))]), (14, [(AV.list 30 y.2.2.2.2.2.2.2.2.2.2.2.2.2.2.1 (some 6403670016))]), (15, [(AV.v (.bool y.2.2.2.2.2.2.2.2.2.2.2.2.2.2.2.1))]), (37, y.2.2.2.2.2.2.2.2.2.2.2.2.2.2.2.2.1), (40, y.2.2.2.2.2.2.2.2.2.2.2.2.2.2.2.2.2)] (zI 28).2.toks 0)
  sp := fun y α k => k (.normal, mkS 179 [(3, (AV.list 25 y.1 none)), (43, (AV.list 1 y.2.1 none)), (5, (AV.ptr 5 0)), (7, (AV.ptr 7 0)), (9, (AV.ptr 9 0)), (14, (AV.ptr 14 0)), (15, (AV.ptr 15 0)), (16, (AV.fn (.func 28) [] [(AV.ptr 15 0), (AV.ptr 7 0), (AV.ptr 14 0), (AV.ptr 9 0)])), (17, (AV.vs 37 0 y.2.2.1 38)), (18, (AV.vs 40 0 y.2.2.2.1 1)), (20, (AV.v (.int .i64 y.2.2.2.2.1))), (21, (AV.ptr 37 y.2.2.2.2.2.1)), (22, (AV.v (.int .i64 y.2.2.2.2.2.2.1))), (44, (AV.v (.int .i64 y.2.2.2.2.2.2.2.1))), (45, (AV.v (.int .i64 y.2.2.2.2.2.2.2.2.1)))] [(5, [(AV.list 4 y.2.2.2.2.2.2.2.2.2.1 none), (AV.v (.int .i64 y.2.2.2.2.2.2.2.2.2.2.1)), (AV.v (.int .i64 y.2.2.2.2.2.2.2.2.2.2.2.1))]), (7, [(AV.v (.int .i64 y.2.2.2.2.2.2.2.2.2.2.2.2.1))]), (9, [(AV.v (.int .i64 y.2.2.2.2.2.2.2.2.2.2.2.2.2.1))]), (14, [(AV.list 30 y.2.2.2.2.2.2.2.2.2.2.2.2.2.2.1 (some 6403670016))]), (15, [(AV.v (.bool y.2.2.2.2.2.2.2.2.2.2.2.2.2.2.2.1))]), (37, y.2.2.2.2.2.2.2.2.2.2.2.2.2.2.2.2.1), (40, y.2.2.2.2.2.2.2.2.2.2.2.2.2.2.2.2.2)] (zI 28).2.toks 0)
  spe := fun y α k => rfl
  b := fun u28 α kn ke => (match u28.2.2.2.2.2.2.2.2.2.1 with | true => (if 0 ≤ u28.2.2.2.2.1 ∧ u28.2.2.2.2.1 < (u28.2.2.2.1 : Int) then (if ((0 + u28.2.2.2.2.1.toNat) * 1) + 1 ≤ u28.2.2.2.2.2.2.2.2.2.2.2.2.2.2.2.2.2.2.length then (if 0 ≤ u28.2.2.2.2.1 then (match u28.1[u28.2.2.2.2.1.toNat]? with | some c20 => (match Rrd1 (c20.drop 0) with | some e21 => (if (u28.2.2.2.2.2.1 + 2) + 9 ≤ u28.2.2.2.2.2.2.2.2.2.2.2.2.2.2.2.2.2.1.length then (if 0 ≤ u28.2.2.2.2.1 then (match u28.1[u28.2.2.2.2.1.toNat]? with | some c22 => (match Rrd0 c22 with | some e23 => (match F31_d N (u28.2.2.2.2.2.2.2.2.2.2.1, u28.2.2.2.2.2.2.2.2.2.2.2.1, u28.2.2.2.2.2.2.2.2.2.2.2.2.1, e23) with | some y24 => (ke (u28.1, u28.2.1, u28.2.2.1, u28.2.2.2.1, u28.2.2.2.2.1, u28.2.2.2.2.2.1, y24, u28.2.2.2.2.2.2.2.1, u28.2.2.2.2.2.2.2.2.1, u28.2.2.2.2.2.2.2.2.2.2.1, u28.2.2.2.2.2.2.2.2.2.2.2.1, u28.2.2.2.2.2.2.2.2.2.2.2.2.1, u28.2.2.2.2.2.2.2.2.2.2.2.2.2.1, u28.2.2.2.2.2.2.2.2.2.2.2.2.2.2.1, u28.2.2.2.2.2.2.2.2.2.2.2.2.2.2.2.1, u28.2.2.2.2.2.2.2.2.2.2.2.2.2.2.2.2.1, ((splice u28.2.2.2.2.2.2.2.2.2.2.2.2.2.2.2.2.2.1 (u28.2.2.2.2.2.1 + 2) (Ren1 e21)).map dat0), ((splice u28.2.2.2.2.2.2.2.2.2.2.2.2.2.2.2.2.2.2 ((0 + u28.2.2.2.2.1.toNat) * 1) [(AV.v (.bool true))]).map dat0))) | none => none) | none => none) | none => none) else none) else none) | none => none) | none => none) else none) else none) else none) | false => (ke (u28.1, u28.2.1, u28.2.2.1, u28.2.2.2.1, u28.2.2.2.2.1, u28.2.2.2.2.2.1, u28.2.2.2.2.2.2.1, u28.2.2.2.2.2.2.2.1, u28.2.2.2.2.2.2.2.2.1, u28.2.2.2.2.2.2.2.2.2.2.1, u28.2.2.2.2.2.2.2.2.2.2.2.1, u28.2.2.2.2.2.2.2.2.2.2.2.2.1, u28.2.2.2.2.2.2.2.2.2.2.2.2.2.1, u28.2.2.2.2.2.2.2.2.2.2.2.2.2.2.1, u28.2.2.2.2.2.2.2.2.2.2.2.2.2.2.2.1, u28.2.2.2.2.2.2.2.2.2.2.2.2.2.2.2.2.1, (u28.2.2.2.2.2.2.2.2.2.2.2.2.2.2.2.2.2.1.map dat0), (u28.2.2.2.2.2.2.2.2.2.2.2.2.2.2.2.2.2.2.map dat0))))
noncomputable abbrev zgn (N : Nat) (x : (List (List AV)) × (List (List AV)) × Nat × Nat × Int × Nat × Int × Int × Int × Bool × (List (List AV)) × Int × Int × Int × Int × (List (List AV)) × Bool × (List AV) × (List AV)) : Option (((List (List AV)) × (List (List AV)) × Nat × Nat × Int × Nat × Int × Int × Int × (List (List AV)) × Int × Int × Int × Int × (List (List AV)) × Bool × (List AV) × (List AV))) := (ZN N).L N x
noncomputable def Zv (N : Nat) : LSpec where
  X := (List (List AV)) × (List (List AV)) × Nat × Nat × Int × Int × (List (List AV)) × Int × Int × Int × Int × (List (List AV)) × Bool × (List AV) × (List AV)
  Y := ((List (List AV)) × (List (List AV)) × Nat × Nat × Int × Int × (List (List AV)) × Int × Int × Int × Int × (List (List AV)) × Bool × (List AV) × (List AV))
  p := fun s => pNat s.env.length 179 <| pNat s.nin 0 <| pLst 25 (s.at 3) fun a0 => pLst 1 (s.at 43) fun a1 => pPtr 5 0 (s.at 5) <| pPtr 7 0 (s.at 7) <| pPtr 9 0 (s.at 9) <| pPtr 14 0 (s.at 14) <| pPtr 15 0 (s.at 15) <| pFn 28 (s.at 16) fun c10 c11 => pEnd c10 <| zj c11 fun c13 c14 => pPtr 15 0 c13 <| zj c14 fun c15 c16 => pPtr 7 0 c15 <| zj c16 fun c17 c18 => pPtr 14 0 c17 <| zj c18 fun c19 c20 => pPtr 9 0 c19 <| pEnd c20 <| pVs0 37 38 (s.at 17) fun a2 => pVs0 40 1 (s.at 18) fun a3 => pInt .i64 (s.at 44) fun a4 => pInt .i64 (s.at 45) fun a5 => zT (s.bx 5) fun c25 => zj c25 fun c27 c28 => pLst 4 c27 fun a6 => zj c28 fun c29 c30 => pInt .i64 c29 fun a7 => zj c30 fun c31 c32 => pInt .i64 c31 fun a8 => pEnd c32 <| zT (s.bx 7) fun c33 => zj c33 fun c35 c36 => pInt .i64 c35 fun a9 => pEnd c36 <| zT (s.bx 9) fun c37 => zj c37 fun c39 c40 => pInt .i64 c39 fun a10 => pEnd c40 <| zT (s.bx 14) fun c41 => zj c41 fun c43 c44 => pTok 30 6403670016 c43 fun a11 => pEnd c44 <| zT (s.bx 15) fun c45 => zj c45 fun c47 c48 => zbf c47 fun a12 => pEnd c48 <| zT (s.bx 37) fun a13 => zT (s.bx 40) fun a14 => some (a0, a1, a2, a3, a4, a5, a6, a7, a8, a9, a10, a11, a12, a13, a14)
  st := fun u19 => mkS 179 [(3, (AV.list 25 u19.1 none)), (43, (AV.list 1 u19.2.1 none)), (5, (AV.ptr 5 0)), (7, (AV.ptr 7 0)), (9, (AV.ptr 9 0)), (14, (AV.ptr 14 0)), (15, (AV.ptr 15 0)), (16, (AV.fn (.func 28) [] [(AV.ptr 15 0), (AV.ptr 7 0), (AV.ptr 14 0), (AV.ptr 9 0)])), (17, (AV.vs 37 0 u19.2.2.1 38)), (18, (AV.vs 40 0 u19.2.2.2.1 1)), (44, (AV.v (.int .i64 u19.2.2.2.2.1))), (45, (AV.v (.int .i64 u19.2.2.2.2.2.1)))] [(5, [(AV.list 4 u19.2.2.2.2.2.2.1 none), (AV.v (.int .i64 u19.2.2.2.2.2.2.2.1)), (AV.v (.int .i64 u19.2.2.2.2.2.2.2.2.1))]), (7, [(AV.v (.int .i64 u19.2.2.2.2.2.2.2.2.2.1))]), (9, [(AV.v (.int .i64 u19.2.2.2.2.2.2.2.2.2.2.1))]), (14, [(AV.list 30 u19.2.2.2.2.2.2.2.2.2.2.2.1 (some 6403670016))]), (15, [(AV.v (.bool u19.2.2.2.2.2.2.2.2.2.2.2.2.1))]), (37, u19.2.2.2.2.2.2.2.2.2.2.2.2.2.1), (40, u19.2.2.2.2.2.2.2.2.2.2.2.2.2.2)] (zI 19).1.toks 0
  out := fun y => (.normal, mkS 179 [(3, (AV.list 25 y.1 none)), (43, (AV.list 1 y.2.1 none)), (5, (AV.ptr 5 0)), (7, (AV.ptr 7 0)), (9, (AV.ptr 9 0)), (14, (AV.ptr 14 0)), (15, (AV.ptr 15 0)), (16, (AV.fn (.func 28) [] [(AV.ptr 15 0), (AV.ptr 7 0), (AV.ptr 14 0), (AV.ptr 9 0)])), (17, (AV.vs 37 0 y.2.2.1 38)), (18, (AV.vs 40 0 y.2.2.2.1 1)), (44, (AV.v (.int .i64 y.2.2.2.2.1))), (45, (AV.v (.int .i64 y.2.2.2.2.2.1)))] [(5, [(AV.list 4 y.2.2.2.2.2.2.1 none), (AV.v (.int .i64 y.2.2.2.2.2.2.2.1)), (AV.v (.int .i64 y.2.2.2.2.2.2.2.2.1))]), (7, [(AV.v (.int .i64 y.2.2.2.2.2.2.2.2.2.1))]), (9, [(AV.v (.int .i64 y.2.2.2.2.2.2.2.2.2.2.1))]), (14, [(AV.list 30 y.2.2.2.2.2.2.2.2.2.2.2.1 (some 6403670016))]), (15, [(AV.v (.bool y.2.2.2.2.2.2.2.2.2.2.2.2.1))]), (37, y.2.2.2.2.2.2.2.2.2.2.2.2.2.1), (40, y.2.2.2.2.2.2.2.2.2.2.2.2.2.2)] (zI 19).2.toks 0)
  sp := fun y α k => k (.normal, mkS 179 [(3, (AV.list 25 y.1 none)), (43, (AV.list 1 y.2.1 none)), (5, (AV.ptr 5 0)), (7, (AV.ptr 7 0)), (9, (AV.ptr 9 0)), (14, (AV.ptr 14 0)), (15, (AV.ptr 15 0)), (16, (AV.fn (.func 28) [] [(AV.ptr 15 0), (AV.ptr 7 0), (AV.ptr 14 0), (AV.ptr 9 0)])), (17, (AV.vs 37 0 y.2.2.1 38)), (18, (AV.vs 40 0 y.2.2.2.1 1)), (44, (AV.v (.int .i64 y.2.2.2.2.1))), (45, (AV.v (.int .i64 y.2.2.2.2.2.1)))] [(5, [(AV.list 4 y.2.2.2.2.2.2.1 none), (AV.v (.int .i64 y.2.2.2.2.2.2.2.1)), (AV.v (.int .i64 y.2.2.2.2.2.2.2.2.1))]), (7, [(AV.v (.int .i64 y.2.2.2.2.2.2.2.2.2.1))]), (9, [(AV.v (.int .i64 y.2.2.2.2.2.2.2.2.2.2.1))]), (14, [(AV.list 30 y.2.2.2.2.2.2.2.2.2.2.2.1 (some 6403670016))]), (15, [(AV.v (.bool y.2.2.2.2.2.2.2.2.2.2.2.2.1))]), (37, y.2.2.2.2.2.2.2.2.2.2.2.2.2.1), (40, y.2.2.2.2.2.2.2.2.2.2.2.2.2.2)] (zI 19).2.toks 0)
  spe := fun y α k => rfl
  b := fun u19 α kn ke => (if 0 ≤ u19.2.2.2.2.2.1 then (match u19.2.1[u19.2.2.2.2.2.1.toNat]? with | some c80 => (match c80[0]? with | some x81 => (match x81 with | .v (.int q83 n82) => (if q83 = .i64 then (if 0 ≤ u19.2.2.2.2.2.1 ∧ u19.2.2.2.2.2.1 < (u19.2.2.1 : Int) then (match u19.2.2.2.2.2.2.2.2.2.2.2.2.2.1[(((0 + u19.2.2.2.2.2.1.toNat) * 38) + 1)]? with | some x84 => (match x84 with | .v (.bool b85) => (match b85 with | true => (ke (u19.1, u19.2.1, u19.2.2.1, u19.2.2.2.1, u19.2.2.2.2.1, u19.2.2.2.2.2.1, u19.2.2.2.2.2.2.1, u19.2.2.2.2.2.2.2.1, u19.2.2.2.2.2.2.2.2.1, u19.2.2.2.2.2.2.2.2.2.1, u19.2.2.2.2.2.2.2.2.2.2.1, u19.2.2.2.2.2.2.2.2.2.2.2.1, u19.2.2.2.2.2.2.2.2.2.2.2.2.1, (u19.2.2.2.2.2.2.2.2.2.2.2.2.2.1.map dat0), (u19.2.2.2.2.2.2.2.2.2.2.2.2.2.2.map dat0))) | false => (match zgn N (u19.1, u19.2.1, u19.2.2.1, u19.2.2.2.1, n82, ((0 + u19.2.2.2.2.2.1.toNat) * 38), 0, u19.2.2.2.2.1, u19.2.2.2.2.2.1, (decide (n82 ≥ 0)), u19.2.2.2.2.2.2.1, u19.2.2.2.2.2.2.2.1, u19.2.2.2.2.2.2.2.2.1, u19.2.2.2.2.2.2.2.2.2.1, u19.2.2.2.2.2.2.2.2.2.2.1, u19.2.2.2.2.2.2.2.2.2.2.2.1, u19.2.2.2.2.2.2.2.2.2.2.2.2.1, (u19.2.2.2.2.2.2.2.2.2.2.2.2.2.1.map dat0), (u19.2.2.2.2.2.2.2.2.2.2.2.2.2.2.map dat0)) with | some y86 => (match zfS N (y86.1, y86.2.1, y86.2.2.1, y86.2.2.2.1, y86.2.2.2.2.1, y86.2.2.2.2.2.1, y86.2.2.2.2.2.2.1, y86.2.2.2.2.2.2.2.1, y86.2.2.2.2.2.2.2.2.1, (y86.2.2.2.2.2.2.1 == 0), y86.2.2.2.2.2.2.2.2.2.1, y86.2.2.2.2.2.2.2.2.2.2.1, y86.2.2.2.2.2.2.2.2.2.2.2.1, y86.2.2.2.2.2.2.2.2.2.2.2.2.1, y86.2.2.2.2.2.2.2.2.2.2.2.2.2.1, y86.2.2.2.2.2.2.2.2.2.2.2.2.2.2.1, y86.2.2.2.2.2.2.2.2.2.2.2.2.2.2.2.1, (y86.2.2.2.2.2.2.2.2.2.2.2.2.2.2.2.2.1.map dat0), (y86.2.2.2.2.2.2.2.2.2.2.2.2.2.2.2.2.2.map dat0)) with | some y87 => (ke (y87.1, y87.2.1, y87.2.2.1, y87.2.2.2.1, y87.2.2.2.2.1, y87.2.2.2.2.2.1, y87.2.2.2.2.2.2.1, y87.2.2.2.2.2.2.2.1, y87.2.2.2.2.2.2.2.2.1, y87.2.2.2.2.2.2.2.2.2.1, y87.2.2.2.2.2.2.2.2.2.2.1, y87.2.2.2.2.2.2.2.2.2.2.2.1, y87.2.2.2.2.2.2.2.2.2.2.2.2.1, (y87.2.2.2.2.2.2.2.2.2.2.2.2.2.1.map dat0), (y87.2.2.2.2.2.2.2.2.2.2.2.2.2.2.map dat0))) | none => none) | none => none)) | _ => none) | none => none) else none) else none) | _ => none) | none => none) | none => none) else none)
noncomputable abbrev zes (N : Nat) (x : (List (List AV)) × (List (List AV)) × Nat × Nat × Int × Int × (List (List AV)) × Int × Int × Int × Int × (List (List AV)) × Bool × (List AV) × (List AV)) : Option (((List (List AV)) × (List (List AV)) × Nat × Nat × Int × Int × (List (List AV)) × Int × Int × Int × Int × (List (List AV)) × Bool × (List AV) × (List AV))) := (Zv N).L N x
noncomputable def Zm (N : Nat) : LSpec where
  X := (List (List AV)) × (List (List AV)) × Nat × Nat × Int × Int × (List (List AV)) × Int × Int × Int × Int × (List (List AV)) × Bool × (List AV) × (List AV)
  Y := ((List (List AV)) × Nat × Nat × (List (List AV)) × Int × Int × Int × Int × (List (List AV)) × Bool × (List AV) × (List AV))
  p := fun s => pNat s.env.length 179 <| pNat s.nin 0 <| pLst 25 (s.at 3) fun a0 => pLst 1 (s.at 43) fun a1 => pPtr 5 0 (s.at 5) <| pPtr 7 0 (s.at 7) <| pPtr 9 0 (s.at 9) <| pPtr 14 0 (s.at 14) <| pPtr 15 0 (s.at 15) <| pFn 28 (s.at 16) fun c10 c11 => pEnd c10 <| zj c11 fun c13 c14 => pPtr 15 0 c13 <| zj c14 fun c15 c16 => pPtr 7 0 c15 <| zj c16 fun c17 c18 => pPtr 14 0 c17 <| zj c18 fun c19 c20 => pPtr 9 0 c19 <| pEnd c20 <| pVs0 37 38 (s.at 17) fun a2 => pVs0 40 1 (s.at 18) fun a3 => pInt .i64 (s.at 44) fun a4 => pInt .i64 (s.at 45) fun a5 => zT (s.bx 5) fun c25 => zj c25 fun c27 c28 => pLst 4 c27 fun a6 => zj c28 fun c29 c30 => pInt .i64 c29 fun a7 => zj c30 fun c31 c32 => pInt .i64 c31 fun a8 => pEnd c32 <| zT (s.bx 7) fun c33 => zj c33 fun c35 c36 => pInt .i64 c35 fun a9 => pEnd c36 <| zT (s.bx 9) fun c37 => zj c37 fun c39 c40 => pInt .i64 c39 fun a10 => pEnd c40 <| zT (s.bx 14) fun c41 => zj c41 fun c43 c44 => pTok 30 6403670016 c43 fun a11 => pEnd c44 <| zT (s.bx 15) fun c45 => zj c45 fun c47 c48 => zbf c47 fun a12 => pEnd c48 <| zT (s.bx 37) fun a13 => zT (s.bx 40) fun a14 => some (a0, a1, a2, a3, a4, a5, a6, a7, a8, a9, a10, a11, a12, a13, a14)
  st := fun u14 => mkS 179 [(3, (AV.list 25 u14.1 none)), (43, (AV.list 1 u14.2.1 none)), (5, (AV.ptr 5 0)), (7, (AV.ptr 7 0)), (9, (AV.ptr 9 0)), (14, (AV.ptr 14 0)), (15, (AV.ptr 15 0)), (16, (AV.fn (.func 28) [] [(AV.ptr 15 0), (AV.ptr 7 0), (AV.ptr 14 0), (AV.ptr 9 0)])), (17, (AV.vs 37 0 u14.2.2.1 38)), (18, (AV.vs 40 0 u14.2.2.2.1 1)), (44, (AV.v (.int .i64 u14.2.2.2.2.1))), (45, (AV.v (.int .i64 u14.2.2.2.2.2.1)))] [(5, [(AV.list 4 u14.2.2.2.2.2.2.1 none), (AV.v (.int .i64 u14.2.2.2.2.2.2.2.1)), (AV.v (.int .i64 u14.2.2.2.2.2.2.2.2.1))]), (7, [(AV.v (.int .i64 u14.2.2.2.2.2.2.2.2.2.1))]), (9, [(AV.v (.int .i64 u14.2.2.2.2.2.2.2.2.2.2.1))]), (14, [(AV.list 30 u14.2.2.2.2.2.2.2.2.2.2.2.1 (some 6403670016))]), (15, [(AV.v (.bool u14.2.2.2.2.2.2.2.2.2.2.2.2.1))]), (37, u14.2.2.2.2.2.2.2.2.2.2.2.2.2.1), (40, u14.2.2.2.2.2.2.2.2.2.2.2.2.2.2)] (zI 14).1.toks 0
  out := fun y => (.exit 0, mkS 179 [(3, (AV.list 25 y.1 none)), (5, (AV.ptr 5 0)), (7, (AV.ptr 7 0)), (9, (AV.ptr 9 0)), (14, (AV.ptr 14 0)), (15, (AV.ptr 15 0)), (16, (AV.fn (.func 28) [] [(AV.ptr 15 0), (AV.ptr 7 0), (AV.ptr 14 0), (AV.ptr 9 0)])), (17, (AV.vs 37 0 y.2.1 38)), (18, (AV.vs 40 0 y.2.2.1 1))] [(5, [(AV.list 4 y.2.2.2.1 none), (AV.v (.int .i64 y.2.2.2.2.1)), (AV.v (.int .i64 y.2.2.2.2.2.1))]), (7, [(AV.v (.int .i64 y.2.2.2.2.2.2.1))]), (9, [(AV.v (.int .i64 y.2.2.2.2.2.2.2.1))]), (14, [(AV.list 30 y.2.2.2.2.2.2.2.2.1 (some 6403670016))]), (15, [(AV.v (.bool y.2.2.2.2.2.2.2.2.2.1))]), (37, y.2.2.2.2.2.2.2.2.2.2.1), (40, y.2.2.2.2.2.2.2.2.2.2.2)] (zI 14).2.toks 0)
  sp := fun y α k => k (.exit 0, mkS 179 [(3, (AV.list 25 y.1 none)), (5, (AV.ptr 5 0)), (7, (AV.ptr 7 0)), (9, (AV.ptr 9 0)), (14, (AV.ptr 14 0)), (15, (AV.ptr 15 0)), (16, (AV.fn (.func 28) [] [(AV.ptr 15 0), (AV.ptr 7 0), (AV.ptr 14 0), (AV.ptr 9 0)])), (17, (AV.vs 37 0 y.2.1 38)), (18, (AV.vs 40 0 y.2.2.1 1))] [(5, [(AV.list 4 y.2.2.2.1 none), (AV.v (.int .i64 y.2.2.2.2.1)), (AV.v (.int .i64 y.2.2.2.2.2.1))]), (7, [(AV.v (.int .i64 y.2.2.2.2.2.2.1))]), (9, [(AV.v (.int .i64 y.2.2.2.2.2.2.2.1))]), (14, [(AV.list 30 y.2.2.2.2.2.2.2.2.1 (some 6403670016))]), (15, [(AV.v (.bool y.2.2.2.2.2.2.2.2.2.1))]), (37, y.2.2.2.2.2.2.2.2.2.2.1), (40, y.2.2.2.2.2.2.2.2.2.2.2)] (zI 14).2.toks 0)
  spe := fun y α k => rfl
  b := fun u14 α kn ke => (match (decide (u14.2.2.2.2.2.1 < u14.2.2.2.2.1)) with | true => (match zes N (u14.1, u14.2.1, u14.2.2.1, u14.2.2.2.1, u14.2.2.2.2.1, u14.2.2.2.2.2.1, u14.2.2.2.2.2.2.1, u14.2.2.2.2.2.2.2.1, u14.2.2.2.2.2.2.2.2.1, u14.2.2.2.2.2.2.2.2.2.1, u14.2.2.2.2.2.2.2.2.2.2.1, u14.2.2.2.2.2.2.2.2.2.2.2.1, u14.2.2.2.2.2.2.2.2.2.2.2.2.1, (u14.2.2.2.2.2.2.2.2.2.2.2.2.2.1.map dat0), (u14.2.2.2.2.2.2.2.2.2.2.2.2.2.2.map dat0)) with | some y89 => (kn (y89.1, y89.2.1, y89.2.2.1, y89.2.2.2.1, y89.2.2.2.2.1, (i64 (y89.2.2.2.2.2.1 + 1)), y89.2.2.2.2.2.2.1, y89.2.2.2.2.2.2.2.1, y89.2.2.2.2.2.2.2.2.1, y89.2.2.2.2.2.2.2.2.2.1, y89.2.2.2.2.2.2.2.2.2.2.1, y89.2.2.2.2.2.2.2.2.2.2.2.1, y89.2.2.2.2.2.2.2.2.2.2.2.2.1, (y89.2.2.2.2.2.2.2.2.2.2.2.2.2.1.map dat0), (y89.2.2.2.2.2.2.2.2.2.2.2.2.2.2.map dat0))) | none => none) | false => (ke (u14.1, u14.2.2.1, u14.2.2.2.1, u14.2.2.2.2.2.2.1, u14.2.2.2.2.2.2.2.1, u14.2.2.2.2.2.2.2.2.1, u14.2.2.2.2.2.2.2.2.2.1, u14.2.2.2.2.2.2.2.2.2.2.1, u14.2.2.2.2.2.2.2.2.2.2.2.1, u14.2.2.2.2.2.2.2.2.2.2.2.2.1, (u14.2.2.2.2.2.2.2.2.2.2.2.2.2.1.map dat0), (u14.2.2.2.2.2.2.2.2.2.2.2.2.2.2.map dat0))))
noncomputable abbrev zkI (N : Nat) (x : (List (List AV)) × (List (List AV)) × Nat × Nat × Int × Int × (List (List AV)) × Int × Int × Int × Int × (List (List AV)) × Bool × (List AV) × (List AV)) : Option (((List (List AV)) × Nat × Nat × (List (List AV)) × Int × Int × Int × Int × (List (List AV)) × Bool × (List AV) × (List AV))) := (Zm N).L N x
noncomputable def zcz (N : Nat) : FSpec where
  X := (List (List AV)) × Int × Int × (List (List AV)) × Int × (List (List AV)) × Int
  Y := (List (List AV)) × (List (List AV)) × Int
  ash := [[some 4, none, none], [some 38], [none], [some 25], [none]]
  bsh := []
  S := ⟨[[some 2000038], [some 2000030], [none]], [], [], [], []⟩
  bm := false
  pat := fun a b => zj a fun v1 c2 => Z4 v1 fun c3 => zj c3 fun c4 c5 => pLst 4 c4 fun a0 => zj c5 fun c6 c7 => pInt .i64 c6 fun a1 => zj c7 fun c8 c9 => pInt .i64 c8 fun a2 => pEnd c9 <| zj c2 fun v10 c11 => pLst 38 v10 fun a3 => zj c11 fun v12 c13 => pInt .i64 v12 fun a4 => zj c13 fun v14 c15 => pLst 25 v14 fun a5 => zj c15 fun v16 c17 => pInt .i64 v16 fun a6 => pEnd c17 <| pEnd b <| some (a0, a1, a2, a3, a4, a5, a6)
  args := fun x => [(AV.agg [(AV.list 4 x.1 none), (AV.v (.int .i64 x.2.1)), (AV.v (.int .i64 x.2.2.1))]), (AV.list 38 x.2.2.2.1 none), (AV.v (.int .i64 x.2.2.2.2.1)), (AV.list 25 x.2.2.2.2.2.1 none), (AV.v (.int .i64 x.2.2.2.2.2.2))]
  bs := fun x => []
  ret := fun y => ⟨(AV.tup [(AV.list 38 y.1 (some 2560000000)), (AV.list 30 y.2.1 (some 2560000001)), (AV.v (.int .i64 y.2.2))]), [], none, [], [2560000000, 2560000001], []⟩
  t := fun x α k => (match F27_d N x with | some y1 => (match (y1 != 0) with | true => (k (([] : List (List AV)), ([] : List (List AV)), y1)) | false => (match zhd N x.2.2.2.1 with | some y2 => (if 0 ≤ (x.2.2.2.2.2.1.length : Int) ∧ (x.2.2.2.2.2.1.length : Int) ≤ (x.2.2.2.2.2.1.length : Int) ∧ (x.2.2.2.2.2.1.length : Int).toNat * 1 ≤ zl then (match F19_d N (x.2.2.2.1, x.2.2.2.2.2.1) with | some y3 => (match zkI N (x.2.2.2.2.2.1, y3, y2.1, ((x.2.2.2.2.2.1.length : Int).toNat), (y3.length : Int), 0, x.1, x.2.1, x.2.2.1, x.2.2.2.2.1, x.2.2.2.2.2.2, ([] : List (List AV)), false, ((y2.2.map dat0).map dat0), ((List.replicate (x.2.2.2.2.2.1.length : Int).toNat (AV.v (.bool false))).map dat0)) with | some y90 => (match zjU N (y90.2.1, y90.1, y90.2.2.1, (y90.1.length : Int), 0, y90.2.2.2.1, y90.2.2.2.2.1, y90.2.2.2.2.2.1, y90.2.2.2.2.2.2.1, y90.2.2.2.2.2.2.2.1, y90.2.2.2.2.2.2.2.2.1, y90.2.2.2.2.2.2.2.2.2.1, (y90.2.2.2.2.2.2.2.2.2.2.2.map dat0), (y90.2.2.2.2.2.2.2.2.2.2.1.map dat0)) with | some y107 => (match (decide (((y107.1 : Nat) : Int) > 200)) with | true => (k (([] : List (List AV)), ([] : List (List AV)), 8)) | false => (match y107.2.2.1 with | true => (k (([] : List (List AV)), ([] : List (List AV)), 8)) | false => (if y107.1 * 38 ≤ y107.2.2.2.length then (k ((zO (y107.2.2.2.take (y107.1 * 38)) 38 y107.1), y107.2.1, 0)) else none))) | none => none) | none => none) | none => none) else none) | none => none)) | none => none)
noncomputable abbrev zeo (N : Nat) (x : (List (List AV)) × Int × Int × (List (List AV)) × Int × (List (List AV)) × Int) : Option ((List (List AV)) × (List (List AV)) × Int) := (zcz N).d x
noncomputable def ZR (N : Nat) : List (Nat × LSpec) := [(14, Zm N), (19, Zv N), (28, ZN N), (33, Zq N), (35, Zr N), (41, zR N)]
noncomputable def ZJ : Code := Try.f11.body.getD .skip
theorem zka (N : Nat) : Par (zR N).b := by
  intro x α β kn ke kn' ke' r r' h h1 h2
  revert h
  dsimp only [zR]
  (repeat' (first | (with_reducible refine zg ?_ ?_) | (with_reducible refine zc ?_ ?_) | split)) <;> intro h <;> first | exact h1 _ h | exact h2 _ h | (cases h; done)
theorem zht (N : Nat) : BdOk (tabB Try.prog [37, 166]) (zgv N) zI N (ZR N) 41 ZJ (zR N) := fun x α kn ke => by kernel_rfl
theorem zmX (N : Nat) (s : AS) (x : (zR N).X) (hc : s = Zp (zI 41).1 s) (h : (zR N).p s = some x) : s = (zR N).st x := by
  replace h : pNat _ _ _ = some x := h
  obtain ⟨h1, g0⟩ := zS h
  obtain ⟨h2, g1⟩ := zS g0; clear g0
  obtain ⟨a0, h3, g2⟩ := Zz g1; clear g1
  obtain ⟨a1, h4, g3⟩ := zy g2; clear g2
  obtain ⟨h5, g4⟩ := zo g3; clear g3
  obtain ⟨h6, g5⟩ := zo g4; clear g4
  obtain ⟨h7, g6⟩ := zo g5; clear g5
  obtain ⟨h8, g7⟩ := zo g6; clear g6
  obtain ⟨h9, g8⟩ := zo g7; clear g7
  obtain ⟨c10, c11, h12, g9⟩ := jf g8; clear g8
  obtain ⟨rfl, g10⟩ := ze g9; clear g9
  obtain ⟨c13, c14, rfl, g11⟩ := zb g10; clear g10
  obtain ⟨rfl, g12⟩ := zo g11; clear g11
  obtain ⟨c15, c16, rfl, g13⟩ := zb g12; clear g12
  obtain ⟨rfl, g14⟩ := zo g13; clear g13
  obtain ⟨c17, c18, rfl, g15⟩ := zb g14; clear g14
  obtain ⟨rfl, g16⟩ := zo g15; clear g15
  obtain ⟨c19, c20, rfl, g17⟩ := zb g16; clear g16
  obtain ⟨rfl, g18⟩ := zo g17; clear g17
  obtain ⟨rfl, g19⟩ := ze g18; clear g18
  obtain ⟨a2, h21, g20⟩ := Zz g19; clear g19
  obtain ⟨a3, h22, g21⟩ := zi g20; clear g20
  obtain ⟨a4, h23, g22⟩ := zi g21; clear g21
  obtain ⟨c24, h25, g23⟩ := zr g22; clear g22
  obtain ⟨c26, c27, rfl, g24⟩ := zb g23; clear g23
  obtain ⟨a5, rfl, g25⟩ := zy g24; clear g24
  obtain ⟨c28, c29, rfl, g26⟩ := zb g25; clear g25
  obtain ⟨a6, rfl, g27⟩ := zi g26; clear g26
  obtain ⟨c30, c31, rfl, g28⟩ := zb g27; clear g27
  obtain ⟨a7, rfl, g29⟩ := zi g28; clear g28
  obtain ⟨rfl, g30⟩ := ze g29; clear g29
  obtain ⟨c32, h33, g31⟩ := zr g30; clear g30
  obtain ⟨c34, c35, rfl, g32⟩ := zb g31; clear g31
  obtain ⟨a8, rfl, g33⟩ := zi g32; clear g32
  obtain ⟨rfl, g34⟩ := ze g33; clear g33
  obtain ⟨c36, h37, g35⟩ := zr g34; clear g34
  obtain ⟨c38, c39, rfl, g36⟩ := zb g35; clear g35
  obtain ⟨a9, rfl, g37⟩ := zi g36; clear g36
  obtain ⟨rfl, g38⟩ := ze g37; clear g37
  obtain ⟨c40, h41, g39⟩ := zr g38; clear g38
  obtain ⟨c42, c43, rfl, g40⟩ := zb g39; clear g39
  obtain ⟨a10, rfl, g41⟩ := J2 g40; clear g40
  obtain ⟨rfl, g42⟩ := ze g41; clear g41
  obtain ⟨c44, h45, g43⟩ := zr g42; clear g42
  obtain ⟨c46, c47, rfl, g44⟩ := zb g43; clear g43
  obtain ⟨a11, rfl, g45⟩ := jD g44; clear g44
  obtain ⟨rfl, g46⟩ := ze g45; clear g45
  obtain ⟨a12, h48, g47⟩ := zr g46; clear g46
  obtain ⟨a13, h49, g48⟩ := zr g47; clear g47
  clear h
  cases g48
  exact Zt hc h1 h2 rfl rfl rfl ⟨h3, h4, h5, h6, h7, h8, h9, h12, h21, h22, h23, trivial⟩ ⟨h25, h33, h37, h41, h45, h48, h49, trivial⟩
theorem zjg (N : Nat) : LpOk Try.prog zI N (ZR N) 41 (zd 41 ZJ) :=
  zE (zL Try.prog [37, 166]) (zk _) zm zI N (ZR N) 41 ZJ (l := []) (by kernel_rfl) (by kernel_rfl) an (zR N) rfl (zmX N) (fun _ => rfl) (zht N) (zka N)
theorem zjy (N : Nat) : Par (Zr N).b := by
  intro x α β kn ke kn' ke' r r' h h1 h2
  revert h
  dsimp only [Zr]
  (repeat' (first | (with_reducible refine zg ?_ ?_) | (with_reducible refine zc ?_ ?_) | split)) <;> intro h <;> first | exact h1 _ h | exact h2 _ h | (cases h; done)
theorem zje (N : Nat) : PcOk (tabB Try.prog [37, 166]) (zgv N) zI N (ZR N) 35 ZJ (Zr N) := fun x α kn ke => by kernel_rfl
theorem zkn (N : Nat) (s : AS) (x : (Zr N).X) (hc : s = Zp (zI 35).1 s) (h : (Zr N).p s = some x) : s = (Zr N).st x := by
  replace h : pNat _ _ _ = some x := h
  obtain ⟨h1, g0⟩ := zS h
  obtain ⟨h2, g1⟩ := zS g0; clear g0
  obtain ⟨a0, h3, g2⟩ := zy g1; clear g1
  obtain ⟨a1, h4, g3⟩ := zy g2; clear g2
  obtain ⟨h5, g4⟩ := zo g3; clear g3
  obtain ⟨h6, g5⟩ := zo g4; clear g4
  obtain ⟨h7, g6⟩ := zo g5; clear g5
  obtain ⟨h8, g7⟩ := zo g6; clear g6
  obtain ⟨h9, g8⟩ := zo g7; clear g7
  obtain ⟨c10, c11, h12, g9⟩ := jf g8; clear g8
  obtain ⟨rfl, g10⟩ := ze g9; clear g9
  obtain ⟨c13, c14, rfl, g11⟩ := zb g10; clear g10
  obtain ⟨rfl, g12⟩ := zo g11; clear g11
  obtain ⟨c15, c16, rfl, g13⟩ := zb g12; clear g12
  obtain ⟨rfl, g14⟩ := zo g13; clear g13
  obtain ⟨c17, c18, rfl, g15⟩ := zb g14; clear g14
  obtain ⟨rfl, g16⟩ := zo g15; clear g15
  obtain ⟨c19, c20, rfl, g17⟩ := zb g16; clear g16
  obtain ⟨rfl, g18⟩ := zo g17; clear g17
  obtain ⟨rfl, g19⟩ := ze g18; clear g18
  obtain ⟨a2, h21, g20⟩ := Zz g19; clear g19
  obtain ⟨a3, h22, g21⟩ := Zz g20; clear g20
  obtain ⟨a4, h23, g22⟩ := zi g21; clear g21
  obtain ⟨a5, h24, g23⟩ := zbt g22; clear g22
  obtain ⟨a6, h25, g24⟩ := zi g23; clear g23
  obtain ⟨a7, h26, g25⟩ := zi g24; clear g24
  obtain ⟨a8, h27, g26⟩ := zi g25; clear g25
  obtain ⟨c28, h29, g27⟩ := zr g26; clear g26
  obtain ⟨c30, c31, rfl, g28⟩ := zb g27; clear g27
  obtain ⟨a9, rfl, g29⟩ := zy g28; clear g28
  obtain ⟨c32, c33, rfl, g30⟩ := zb g29; clear g29
  obtain ⟨a10, rfl, g31⟩ := zi g30; clear g30
  obtain ⟨c34, c35, rfl, g32⟩ := zb g31; clear g31
  obtain ⟨a11, rfl, g33⟩ := zi g32; clear g32
  obtain ⟨rfl, g34⟩ := ze g33; clear g33
  obtain ⟨c36, h37, g35⟩ := zr g34; clear g34
  obtain ⟨c38, c39, rfl, g36⟩ := zb g35; clear g35
  obtain ⟨a12, rfl, g37⟩ := zi g36; clear g36
  obtain ⟨rfl, g38⟩ := ze g37; clear g37
  obtain ⟨c40, h41, g39⟩ := zr g38; clear g38
  obtain ⟨c42, c43, rfl, g40⟩ := zb g39; clear g39
  obtain ⟨a13, rfl, g41⟩ := zi g40; clear g40
  obtain ⟨rfl, g42⟩ := ze g41; clear g41
  obtain ⟨c44, h45, g43⟩ := zr g42; clear g42
  obtain ⟨c46, c47, rfl, g44⟩ := zb g43; clear g43
  obtain ⟨a14, rfl, g45⟩ := J2 g44; clear g44
  obtain ⟨rfl, g46⟩ := ze g45; clear g45
  obtain ⟨c48, h49, g47⟩ := zr g46; clear g46
  obtain ⟨c50, c51, rfl, g48⟩ := zb g47; clear g47
  obtain ⟨a15, rfl, g49⟩ := jD g48; clear g48
  obtain ⟨rfl, g50⟩ := ze g49; clear g49
  obtain ⟨a16, h52, g51⟩ := zr g50; clear g50
  obtain ⟨a17, h53, g52⟩ := zr g51; clear g51
  clear h
  cases g52
  exact Zt hc h1 h2 rfl rfl rfl ⟨h3, h4, h5, h6, h7, h8, h9, h12, h21, h22, h23, h24, h25, h26, h27, trivial⟩ ⟨h29, h37, h41, h45, h49, h52, h53, trivial⟩
theorem JA (N : Nat) : LpOk Try.prog zI N (ZR N) 35 (zd 35 ZJ) :=
  Ju (zL Try.prog [37, 166]) (zk _) zm zI N (ZR N) 35 ZJ (l := []) (by kernel_rfl) an (Zr N) rfl (zkn N) (zje N) (zjy N)
theorem zmo (N : Nat) : Par (Zq N).b := by
  intro x α β kn ke kn' ke' r r' h h1 h2
  revert h
  dsimp only [Zq]
  (repeat' (first | (with_reducible refine zg ?_ ?_) | (with_reducible refine zc ?_ ?_) | split)) <;> intro h <;> first | exact h1 _ h | exact h2 _ h | (cases h; done)
theorem ziy (N : Nat) : PcOk (tabB Try.prog [37, 166]) (zgv N) zI N (ZR N) 33 ZJ (Zq N) := fun x α kn ke => by kernel_rfl
theorem zj4 (N : Nat) (s : AS) (x : (Zq N).X) (hc : s = Zp (zI 33).1 s) (h : (Zq N).p s = some x) : s = (Zq N).st x := by
  replace h : pNat _ _ _ = some x := h
  obtain ⟨h1, g0⟩ := zS h
  obtain ⟨h2, g1⟩ := zS g0; clear g0
  obtain ⟨a0, h3, g2⟩ := zy g1; clear g1
  obtain ⟨a1, h4, g3⟩ := zy g2; clear g2
  obtain ⟨h5, g4⟩ := zo g3; clear g3
  obtain ⟨h6, g5⟩ := zo g4; clear g4
  obtain ⟨h7, g6⟩ := zo g5; clear g5
  obtain ⟨h8, g7⟩ := zo g6; clear g6
  obtain ⟨h9, g8⟩ := zo g7; clear g7
  obtain ⟨c10, c11, h12, g9⟩ := jf g8; clear g8
  obtain ⟨rfl, g10⟩ := ze g9; clear g9
  obtain ⟨c13, c14, rfl, g11⟩ := zb g10; clear g10
  obtain ⟨rfl, g12⟩ := zo g11; clear g11
  obtain ⟨c15, c16, rfl, g13⟩ := zb g12; clear g12
  obtain ⟨rfl, g14⟩ := zo g13; clear g13
  obtain ⟨c17, c18, rfl, g15⟩ := zb g14; clear g14
  obtain ⟨rfl, g16⟩ := zo g15; clear g15
  obtain ⟨c19, c20, rfl, g17⟩ := zb g16; clear g16
  obtain ⟨rfl, g18⟩ := zo g17; clear g17
  obtain ⟨rfl, g19⟩ := ze g18; clear g18
  obtain ⟨a2, h21, g20⟩ := Zz g19; clear g19
  obtain ⟨a3, h22, g21⟩ := Zz g20; clear g20
  obtain ⟨a4, h23, g22⟩ := zi g21; clear g21
  obtain ⟨a5, h24, g23⟩ := zbt g22; clear g22
  obtain ⟨a6, h25, g24⟩ := zi g23; clear g23
  obtain ⟨a7, h26, g25⟩ := zi g24; clear g24
  obtain ⟨a8, h27, g26⟩ := zi g25; clear g25
  obtain ⟨a9, h28, g27⟩ := jD g26; clear g26
  obtain ⟨c29, h30, g28⟩ := zr g27; clear g27
  obtain ⟨c31, c32, rfl, g29⟩ := zb g28; clear g28
  obtain ⟨a10, rfl, g30⟩ := zy g29; clear g29
  obtain ⟨c33, c34, rfl, g31⟩ := zb g30; clear g30
  obtain ⟨a11, rfl, g32⟩ := zi g31; clear g31
  obtain ⟨c35, c36, rfl, g33⟩ := zb g32; clear g32
  obtain ⟨a12, rfl, g34⟩ := zi g33; clear g33
  obtain ⟨rfl, g35⟩ := ze g34; clear g34
  obtain ⟨c37, h38, g36⟩ := zr g35; clear g35
  obtain ⟨c39, c40, rfl, g37⟩ := zb g36; clear g36
  obtain ⟨a13, rfl, g38⟩ := zi g37; clear g37
  obtain ⟨rfl, g39⟩ := ze g38; clear g38
  obtain ⟨c41, h42, g40⟩ := zr g39; clear g39
  obtain ⟨c43, c44, rfl, g41⟩ := zb g40; clear g40
  obtain ⟨a14, rfl, g42⟩ := zi g41; clear g41
  obtain ⟨rfl, g43⟩ := ze g42; clear g42
  obtain ⟨c45, h46, g44⟩ := zr g43; clear g43
  obtain ⟨c47, c48, rfl, g45⟩ := zb g44; clear g44
  obtain ⟨a15, rfl, g46⟩ := J2 g45; clear g45
  obtain ⟨rfl, g47⟩ := ze g46; clear g46
  obtain ⟨c49, h50, g48⟩ := zr g47; clear g47
  obtain ⟨c51, c52, rfl, g49⟩ := zb g48; clear g48
  obtain ⟨a16, rfl, g50⟩ := jD g49; clear g49
  obtain ⟨rfl, g51⟩ := ze g50; clear g50
  obtain ⟨a17, h53, g52⟩ := zr g51; clear g51
  obtain ⟨a18, h54, g53⟩ := zr g52; clear g52
  clear h
  cases g53
  exact Zt hc h1 h2 rfl rfl rfl ⟨h3, h4, h5, h6, h7, h8, h9, h12, h21, h22, h23, h24, h25, h26, h27, h28, trivial⟩ ⟨h30, h38, h42, h46, h50, h53, h54, trivial⟩
theorem zax (N : Nat) : LpOk Try.prog zI N (ZR N) 33 (zd 33 ZJ) :=
  Ju (zL Try.prog [37, 166]) (zk _) zm zI N (ZR N) 33 ZJ (l := [(35, zd 35 ZJ)]) (by kernel_rfl) (al (JA N) an) (Zq N) rfl (zj4 N) (ziy N) (zmo N)
theorem zly (N : Nat) : Par (ZN N).b := by
  intro x α β kn ke kn' ke' r r' h h1 h2
  revert h
  dsimp only [ZN]
  (repeat' (first | (with_reducible refine zg ?_ ?_) | (with_reducible refine zc ?_ ?_) | split)) <;> intro h <;> first | exact h1 _ h | exact h2 _ h | (cases h; done)
theorem zhx (N : Nat) : PcOk (tabB Try.prog [37, 166]) (zgv N) zI N (ZR N) 28 ZJ (ZN N) := fun x α kn ke => by kernel_rfl
theorem zlu (N : Nat) (s : AS) (x : (ZN N).X) (hc : s = Zp (zI 28).1 s) (h : (ZN N).p s = some x) : s = (ZN N).st x := by
  replace h : pNat _ _ _ = some x := h
  obtain ⟨h1, g0⟩ := zS h
  obtain ⟨h2, g1⟩ := zS g0; clear g0
  obtain ⟨a0, h3, g2⟩ := zy g1; clear g1
  obtain ⟨a1, h4, g3⟩ := zy g2; clear g2
  obtain ⟨h5, g4⟩ := zo g3; clear g3
  obtain ⟨h6, g5⟩ := zo g4; clear g4
  obtain ⟨h7, g6⟩ := zo g5; clear g5
  obtain ⟨h8, g7⟩ := zo g6; clear g6
  obtain ⟨h9, g8⟩ := zo g7; clear g7
  obtain ⟨c10, c11, h12, g9⟩ := jf g8; clear g8
  obtain ⟨rfl, g10⟩ := ze g9; clear g9
  obtain ⟨c13, c14, rfl, g11⟩ := zb g10; clear g10
  obtain ⟨rfl, g12⟩ := zo g11; clear g11
  obtain ⟨c15, c16, rfl, g13⟩ := zb g12; clear g12
  obtain ⟨rfl, g14⟩ := zo g13; clear g13
  obtain ⟨c17, c18, rfl, g15⟩ := zb g14; clear g14
  obtain ⟨rfl, g16⟩ := zo g15; clear g15
  obtain ⟨c19, c20, rfl, g17⟩ := zb g16; clear g16
  obtain ⟨rfl, g18⟩ := zo g17; clear g17
  obtain ⟨rfl, g19⟩ := ze g18; clear g18
  obtain ⟨a2, h21, g20⟩ := Zz g19; clear g19
  obtain ⟨a3, h22, g21⟩ := Zz g20; clear g20
  obtain ⟨a4, h23, g22⟩ := zi g21; clear g21
  obtain ⟨a5, h24, g23⟩ := zbt g22; clear g22
  obtain ⟨a6, h25, g24⟩ := zi g23; clear g23
  obtain ⟨a7, h26, g25⟩ := zi g24; clear g24
  obtain ⟨a8, h27, g26⟩ := zi g25; clear g25
  obtain ⟨a9, h28, g27⟩ := jD g26; clear g26
  obtain ⟨c29, h30, g28⟩ := zr g27; clear g27
  obtain ⟨c31, c32, rfl, g29⟩ := zb g28; clear g28
  obtain ⟨a10, rfl, g30⟩ := zy g29; clear g29
  obtain ⟨c33, c34, rfl, g31⟩ := zb g30; clear g30
  obtain ⟨a11, rfl, g32⟩ := zi g31; clear g31
  obtain ⟨c35, c36, rfl, g33⟩ := zb g32; clear g32
  obtain ⟨a12, rfl, g34⟩ := zi g33; clear g33
  obtain ⟨rfl, g35⟩ := ze g34; clear g34
  obtain ⟨c37, h38, g36⟩ := zr g35; clear g35
  obtain ⟨c39, c40, rfl, g37⟩ := zb g36; clear g36
  obtain ⟨a13, rfl, g38⟩ := zi g37; clear g37
  obtain ⟨rfl, g39⟩ := ze g38; clear g38
  obtain ⟨c41, h42, g40⟩ := zr g39; clear g39
  obtain ⟨c43, c44, rfl, g41⟩ := zb g40; clear g40
  obtain ⟨a14, rfl, g42⟩ := zi g41; clear g41
  obtain ⟨rfl, g43⟩ := ze g42; clear g42
  obtain ⟨c45, h46, g44⟩ := zr g43; clear g43
  obtain ⟨c47, c48, rfl, g45⟩ := zb g44; clear g44
  obtain ⟨a15, rfl, g46⟩ := J2 g45; clear g45
  obtain ⟨rfl, g47⟩ := ze g46; clear g46
  obtain ⟨c49, h50, g48⟩ := zr g47; clear g47
  obtain ⟨c51, c52, rfl, g49⟩ := zb g48; clear g48
  obtain ⟨a16, rfl, g50⟩ := jD g49; clear g49
  obtain ⟨rfl, g51⟩ := ze g50; clear g50
  obtain ⟨a17, h53, g52⟩ := zr g51; clear g51
  obtain ⟨a18, h54, g53⟩ := zr g52; clear g52
  clear h
  cases g53
  exact Zt hc h1 h2 rfl rfl rfl ⟨h3, h4, h5, h6, h7, h8, h9, h12, h21, h22, h23, h24, h25, h26, h27, h28, trivial⟩ ⟨h30, h38, h42, h46, h50, h53, h54, trivial⟩
theorem zaJ (N : Nat) : LpOk Try.prog zI N (ZR N) 28 (zd 28 ZJ) :=
  Ju (zL Try.prog [37, 166]) (zk _) zm zI N (ZR N) 28 ZJ (l := []) (by kernel_rfl) an (ZN N) rfl (zlu N) (zhx N) (zly N)
theorem zmm (N : Nat) : Par (Zv N).b := by
  intro x α β kn ke kn' ke' r r' h h1 h2
  revert h
  dsimp only [Zv]
  (repeat' (first | (with_reducible refine zg ?_ ?_) | (with_reducible refine zc ?_ ?_) | split)) <;> intro h <;> first | exact h1 _ h | exact h2 _ h | (cases h; done)
theorem zjq (N : Nat) : PcOk (tabB Try.prog [37, 166]) (zgv N) zI N (ZR N) 19 ZJ (Zv N) := fun x α kn ke => by kernel_rfl
theorem zms (N : Nat) (s : AS) (x : (Zv N).X) (hc : s = Zp (zI 19).1 s) (h : (Zv N).p s = some x) : s = (Zv N).st x := by
  replace h : pNat _ _ _ = some x := h
  obtain ⟨h1, g0⟩ := zS h
  obtain ⟨h2, g1⟩ := zS g0; clear g0
  obtain ⟨a0, h3, g2⟩ := zy g1; clear g1
  obtain ⟨a1, h4, g3⟩ := zy g2; clear g2
  obtain ⟨h5, g4⟩ := zo g3; clear g3
  obtain ⟨h6, g5⟩ := zo g4; clear g4
  obtain ⟨h7, g6⟩ := zo g5; clear g5
  obtain ⟨h8, g7⟩ := zo g6; clear g6
  obtain ⟨h9, g8⟩ := zo g7; clear g7
  obtain ⟨c10, c11, h12, g9⟩ := jf g8; clear g8
  obtain ⟨rfl, g10⟩ := ze g9; clear g9
  obtain ⟨c13, c14, rfl, g11⟩ := zb g10; clear g10
  obtain ⟨rfl, g12⟩ := zo g11; clear g11
  obtain ⟨c15, c16, rfl, g13⟩ := zb g12; clear g12
  obtain ⟨rfl, g14⟩ := zo g13; clear g13
  obtain ⟨c17, c18, rfl, g15⟩ := zb g14; clear g14
  obtain ⟨rfl, g16⟩ := zo g15; clear g15
  obtain ⟨c19, c20, rfl, g17⟩ := zb g16; clear g16
  obtain ⟨rfl, g18⟩ := zo g17; clear g17
  obtain ⟨rfl, g19⟩ := ze g18; clear g18
  obtain ⟨a2, h21, g20⟩ := Zz g19; clear g19
  obtain ⟨a3, h22, g21⟩ := Zz g20; clear g20
  obtain ⟨a4, h23, g22⟩ := zi g21; clear g21
  obtain ⟨a5, h24, g23⟩ := zi g22; clear g22
  obtain ⟨c25, h26, g24⟩ := zr g23; clear g23
  obtain ⟨c27, c28, rfl, g25⟩ := zb g24; clear g24
  obtain ⟨a6, rfl, g26⟩ := zy g25; clear g25
  obtain ⟨c29, c30, rfl, g27⟩ := zb g26; clear g26
  obtain ⟨a7, rfl, g28⟩ := zi g27; clear g27
  obtain ⟨c31, c32, rfl, g29⟩ := zb g28; clear g28
  obtain ⟨a8, rfl, g30⟩ := zi g29; clear g29
  obtain ⟨rfl, g31⟩ := ze g30; clear g30
  obtain ⟨c33, h34, g32⟩ := zr g31; clear g31
  obtain ⟨c35, c36, rfl, g33⟩ := zb g32; clear g32
  obtain ⟨a9, rfl, g34⟩ := zi g33; clear g33
  obtain ⟨rfl, g35⟩ := ze g34; clear g34
  obtain ⟨c37, h38, g36⟩ := zr g35; clear g35
  obtain ⟨c39, c40, rfl, g37⟩ := zb g36; clear g36
  obtain ⟨a10, rfl, g38⟩ := zi g37; clear g37
  obtain ⟨rfl, g39⟩ := ze g38; clear g38
  obtain ⟨c41, h42, g40⟩ := zr g39; clear g39
  obtain ⟨c43, c44, rfl, g41⟩ := zb g40; clear g40
  obtain ⟨a11, rfl, g42⟩ := J2 g41; clear g41
  obtain ⟨rfl, g43⟩ := ze g42; clear g42
  obtain ⟨c45, h46, g44⟩ := zr g43; clear g43
  obtain ⟨c47, c48, rfl, g45⟩ := zb g44; clear g44
  obtain ⟨a12, rfl, g46⟩ := jD g45; clear g45
  obtain ⟨rfl, g47⟩ := ze g46; clear g46
  obtain ⟨a13, h49, g48⟩ := zr g47; clear g47
  obtain ⟨a14, h50, g49⟩ := zr g48; clear g48
  clear h
  cases g49
  exact Zt hc h1 h2 rfl rfl rfl ⟨h3, h4, h5, h6, h7, h8, h9, h12, h21, h22, h23, h24, trivial⟩ ⟨h26, h34, h38, h42, h46, h49, h50, trivial⟩
theorem zdC (N : Nat) : LpOk Try.prog zI N (ZR N) 19 (zd 19 ZJ) :=
  Ju (zL Try.prog [37, 166]) (zk _) zm zI N (ZR N) 19 ZJ (l := [(28, zd 28 ZJ), (33, zd 33 ZJ), (35, zd 35 ZJ)]) (by kernel_rfl) (al (zaJ N) (al (zax N) (al (JA N) an))) (Zv N) rfl (zms N) (zjq N) (zmm N)
theorem zmi (N : Nat) : Par (Zm N).b := by
  intro x α β kn ke kn' ke' r r' h h1 h2
  revert h
  dsimp only [Zm]
  (repeat' (first | (with_reducible refine zg ?_ ?_) | (with_reducible refine zc ?_ ?_) | split)) <;> intro h <;> first | exact h1 _ h | exact h2 _ h | (cases h; done)
theorem ziS (N : Nat) : BdOk (tabB Try.prog [37, 166]) (zgv N) zI N (ZR N) 14 ZJ (Zm N) := fun x α kn ke => by kernel_rfl
theorem zjK (N : Nat) (s : AS) (x : (Zm N).X) (hc : s = Zp (zI 14).1 s) (h : (Zm N).p s = some x) : s = (Zm N).st x := by
  replace h : pNat _ _ _ = some x := h
  obtain ⟨h1, g0⟩ := zS h
  obtain ⟨h2, g1⟩ := zS g0; clear g0
  obtain ⟨a0, h3, g2⟩ := zy g1; clear g1
  obtain ⟨a1, h4, g3⟩ := zy g2; clear g2
  obtain ⟨h5, g4⟩ := zo g3; clear g3
  obtain ⟨h6, g5⟩ := zo g4; clear g4
  obtain ⟨h7, g6⟩ := zo g5; clear g5
  obtain ⟨h8, g7⟩ := zo g6; clear g6
  obtain ⟨h9, g8⟩ := zo g7; clear g7
  obtain ⟨c10, c11, h12, g9⟩ := jf g8; clear g8
  obtain ⟨rfl, g10⟩ := ze g9; clear g9
  obtain ⟨c13, c14, rfl, g11⟩ := zb g10; clear g10
  obtain ⟨rfl, g12⟩ := zo g11; clear g11
  obtain ⟨c15, c16, rfl, g13⟩ := zb g12; clear g12
  obtain ⟨rfl, g14⟩ := zo g13; clear g13
  obtain ⟨c17, c18, rfl, g15⟩ := zb g14; clear g14
  obtain ⟨rfl, g16⟩ := zo g15; clear g15
  obtain ⟨c19, c20, rfl, g17⟩ := zb g16; clear g16
  obtain ⟨rfl, g18⟩ := zo g17; clear g17
  obtain ⟨rfl, g19⟩ := ze g18; clear g18
  obtain ⟨a2, h21, g20⟩ := Zz g19; clear g19
  obtain ⟨a3, h22, g21⟩ := Zz g20; clear g20
  obtain ⟨a4, h23, g22⟩ := zi g21; clear g21
  obtain ⟨a5, h24, g23⟩ := zi g22; clear g22
  obtain ⟨c25, h26, g24⟩ := zr g23; clear g23
  obtain ⟨c27, c28, rfl, g25⟩ := zb g24; clear g24
  obtain ⟨a6, rfl, g26⟩ := zy g25; clear g25
  obtain ⟨c29, c30, rfl, g27⟩ := zb g26; clear g26
  obtain ⟨a7, rfl, g28⟩ := zi g27; clear g27
  obtain ⟨c31, c32, rfl, g29⟩ := zb g28; clear g28
  obtain ⟨a8, rfl, g30⟩ := zi g29; clear g29
  obtain ⟨rfl, g31⟩ := ze g30; clear g30
  obtain ⟨c33, h34, g32⟩ := zr g31; clear g31
  obtain ⟨c35, c36, rfl, g33⟩ := zb g32; clear g32
  obtain ⟨a9, rfl, g34⟩ := zi g33; clear g33
  obtain ⟨rfl, g35⟩ := ze g34; clear g34
  obtain ⟨c37, h38, g36⟩ := zr g35; clear g35
  obtain ⟨c39, c40, rfl, g37⟩ := zb g36; clear g36
  obtain ⟨a10, rfl, g38⟩ := zi g37; clear g37
  obtain ⟨rfl, g39⟩ := ze g38; clear g38
  obtain ⟨c41, h42, g40⟩ := zr g39; clear g39
  obtain ⟨c43, c44, rfl, g41⟩ := zb g40; clear g40
  obtain ⟨a11, rfl, g42⟩ := J2 g41; clear g41
  obtain ⟨rfl, g43⟩ := ze g42; clear g42
  obtain ⟨c45, h46, g44⟩ := zr g43; clear g43
  obtain ⟨c47, c48, rfl, g45⟩ := zb g44; clear g44
  obtain ⟨a12, rfl, g46⟩ := jD g45; clear g45
  obtain ⟨rfl, g47⟩ := ze g46; clear g46
  obtain ⟨a13, h49, g48⟩ := zr g47; clear g47
  obtain ⟨a14, h50, g49⟩ := zr g48; clear g48
  clear h
  cases g49
  exact Zt hc h1 h2 rfl rfl rfl ⟨h3, h4, h5, h6, h7, h8, h9, h12, h21, h22, h23, h24, trivial⟩ ⟨h26, h34, h38, h42, h46, h49, h50, trivial⟩
theorem zhR (N : Nat) : LpOk Try.prog zI N (ZR N) 14 (zd 14 ZJ) :=
  zE (zL Try.prog [37, 166]) (zk _) zm zI N (ZR N) 14 ZJ (l := [(19, zd 19 ZJ), (28, zd 28 ZJ), (33, zd 33 ZJ), (35, zd 35 ZJ)]) (by kernel_rfl) (by kernel_rfl) (al (zdC N) (al (zaJ N) (al (zax N) (al (JA N) an)))) (Zm N) rfl (zjK N) (fun _ => rfl) (ziS N) (zmi N)
theorem F11_parF (N : Nat) : ParF (zcz N).t := by
  intro x α β k k' r r' h h1
  revert h
  dsimp only [zcz]
  (repeat' (first | (with_reducible refine zg ?_ ?_) | (with_reducible refine zc ?_ ?_) | split)) <;> intro h <;> first | exact h1 _ h | (cases h; done)
theorem F11_text (N : Nat) : TxOk (tabB Try.prog [37, 166]) (zgv N) zI (lam N (ZR N)) Try.f11 (zcz N) := fun x => by kernel_rfl
theorem F11_pat (N : Nat) (a : List AV) (b : List (List AV)) (x : (zcz N).X) (h : (zcz N).pat a b = some x) : a = (zcz N).args x ∧ b = (zcz N).bs x := by
  obtain ⟨v1, c2, rfl, g0⟩ := zb (show zj _ _ = some x from h)
  obtain ⟨c3, rfl, g1⟩ := zJ g0; clear g0
  obtain ⟨c4, c5, rfl, g2⟩ := zb g1; clear g1
  obtain ⟨a0, rfl, g3⟩ := zy g2; clear g2
  obtain ⟨c6, c7, rfl, g4⟩ := zb g3; clear g3
  obtain ⟨a1, rfl, g5⟩ := zi g4; clear g4
  obtain ⟨c8, c9, rfl, g6⟩ := zb g5; clear g5
  obtain ⟨a2, rfl, g7⟩ := zi g6; clear g6
  obtain ⟨rfl, g8⟩ := ze g7; clear g7
  obtain ⟨v10, c11, rfl, g9⟩ := zb g8; clear g8
  obtain ⟨a3, rfl, g10⟩ := zy g9; clear g9
  obtain ⟨v12, c13, rfl, g11⟩ := zb g10; clear g10
  obtain ⟨a4, rfl, g12⟩ := zi g11; clear g11
  obtain ⟨v14, c15, rfl, g13⟩ := zb g12; clear g12
  obtain ⟨a5, rfl, g14⟩ := zy g13; clear g13
  obtain ⟨v16, c17, rfl, g15⟩ := zb g14; clear g14
  obtain ⟨a6, rfl, g16⟩ := zi g15; clear g15
  obtain ⟨rfl, g17⟩ := ze g16; clear g16
  obtain ⟨rfl, g18⟩ := ze g17; clear g17
  clear h
  cases g18
  exact ⟨rfl, rfl⟩
noncomputable def F11_e (N : Nat) : Ent Try.prog := zB (zL Try.prog [37, 166]) (zk _) zm 11 Try.f11 Try.func11 rfl zI (lam N (ZR N)) (zp (l := [(14, zd 14 ZJ), (19, zd 19 ZJ), (28, zd 28 ZJ), (33, zd 33 ZJ), (35, zd 35 ZJ), (41, zd 41 ZJ)]) (al (zhR N) (al (zdC N) (al (zaJ N) (al (zax N) (al (JA N) (al (zjg N) an)))))) (by kernel_rfl)) (zcz N) (fun _ => ⟨rfl, rfl⟩) (F11_text N) (F11_pat N) (F11_parF N)
end Go.Proofs.Ytnnfpoelkdgjdaa
end
section
namespace Go.Proofs.Ytnnfpoelkdgjdaa
open Go.RowKit
set_option linter.unusedVariables false
set_option linter.unusedSimpArgs false
set_option linter.unnecessarySimpa false
set_option maxRecDepth 4000
def F40_an : Nat → Keep × Keep := anL []
noncomputable def F40_g (N : Nat) : GamK := gam (P := Try.prog) []
noncomputable def zfK (N : Nat) : FSpec where
  X := RT3
  Y := Bool
  ash := [[none, none, none, none, none, none, none, none, none, none, none, none, none, none, none, none, none, none, none, none, none, some 9, none, none, none, none, none, none, none, none, none, none, none, none, none, none, none, none]]
  bsh := []
  S := ⟨[[none]], [], [], [], []⟩
  bm := false
  pat := fun a b => rdA [.agg RK3] [] a b fun ⟨a0, _⟩ _ => a0
  args := fun x => [(AV.agg (Ren3 x))]
  bs := fun x => []
  ret := fun y => ⟨(AV.v (.bool y)), [], none, [], [], []⟩
  t := fun x α k => (k x.2.1)
noncomputable abbrev zih (N : Nat) (x : RT3) : Option (Bool) := (zfK N).d x
theorem F40_parF (N : Nat) : ParF (zfK N).t := by
  intro x α β k k' r r' h h1
  revert h
  dsimp only [zfK]
  (repeat' (first | (with_reducible refine zg ?_ ?_) | (with_reducible refine zc ?_ ?_) | split)) <;> intro h <;> first | exact h1 _ h | (cases h; done)
theorem F40_text (N : Nat) : TxOk (zt Try.prog) (F40_g N) F40_an (lam N []) Try.f40 (zfK N) := fun x => by kernel_rfl
noncomputable def F40_e (N : Nat) : Ent Try.prog := zB (zf Try.prog) (zk _) zm 40 Try.f40 Try.func40 rfl F40_an (lam N []) (zp (l := []) an (by kernel_rfl)) (zfK N) (fun _ => ⟨rfl, rfl⟩) (F40_text N) (fun _ _ _ h => zA h (fun _ _ => rfl) (fun _ _ => rfl)) (F40_parF N)
def jG : Nat → Keep × Keep := anL [(4, ⟨[0, 1, 7, 8], [], [0], [], [], [], [], [0], false⟩, ⟨[4], [], [0], [], [], [], [], [0], false⟩)]
noncomputable def F63b_g (N : Nat) : GamK := gam (P := Try.prog) [F40_e N]
noncomputable def jj (N : Nat) : LSpec where
  X := Nat × Int × Int × (List AV)
  Y := (Int × (List AV)) ⊕ ((List AV))
  p := fun s => pNat s.env.length 19 <| pNat s.nin 1 <| pVs0 0 38 (s.at 0) fun a0 => pFn 40 (s.at 1) fun c4 c5 => pEnd c4 <| pEnd c5 <| pInt .i64 (s.at 7) fun a1 => pInt .i64 (s.at 8) fun a2 => zT (s.bx 0) fun a3 => some (a0, a1, a2, a3)
  st := fun u4 => mkS 19 [(0, (AV.vs 0 0 u4.1 38)), (1, (AV.fn (.func 40) [] [])), (7, (AV.v (.int .i64 u4.2.1))), (8, (AV.v (.int .i64 u4.2.2.1)))] [(0, u4.2.2.2)] (jG 4).1.toks 1
  out := fun y => match y with
    | .inl y => (.ret, mkS 19 [(4, (AV.v (.int .i64 y.1)))] [(0, y.2)] (jG 4).2.toks 1)
    | .inr y => (.exit 0, mkS 19 [] [(0, y)] (jG 4).2.toks 1)
  sp := fun y α k => match y with
    | .inl y => k (.ret, mkS 19 [(4, (AV.v (.int .i64 y.1)))] [(0, y.2)] (jG 4).2.toks 1)
    | .inr y => k (.exit 0, mkS 19 [] [(0, y)] (jG 4).2.toks 1)
  spe := fun y α k => by rcases y with _ | _ <;> rfl
  b := fun u4 α kn ke => (match (decide (u4.2.2.1 < u4.2.1)) with | true => (if 0 ≤ u4.2.2.1 ∧ u4.2.2.1 < (u4.1 : Int) then (match Rrd3 (u4.2.2.2.drop ((0 + u4.2.2.1.toNat) * 38)) with | some e3 => (match zih N e3 with | some y4 => (match y4 with | true => (ke (.inl (u4.2.2.1, (u4.2.2.2.map dat0)))) | false => (kn (u4.1, u4.2.1, (i64 (u4.2.2.1 + 1)), (u4.2.2.2.map dat0)))) | none => none) | none => none) else none) | false => (ke (.inr (u4.2.2.2.map dat0))))
noncomputable abbrev zk1 (N : Nat) (x : Nat × Int × Int × (List AV)) : Option ((Int × (List AV)) ⊕ ((List AV))) := (jj N).L N x
noncomputable def JQ (N : Nat) : FSpec where
  X := Nat × (List AV)
  Y := Int × (List AV)
  ash := [[none], [none]]
  bsh := [[]]
  S := ⟨[[none]], [[]], [], [], [0]⟩
  bm := false
  pat := fun a b => zj a fun v1 c2 => pVs0 0 38 v1 fun a0 => zj c2 fun v3 c4 => pFn 40 v3 fun c5 c6 => pEnd c5 <| pEnd c6 <| pEnd c4 <| zj b fun a1 c7 => pEnd c7 <| some (a0, a1)
  args := fun x => [(AV.vs 0 0 x.1 38), (AV.fn (.func 40) [] [])]
  bs := fun x => [x.2]
  ret := fun y => ⟨(AV.v (.int .i64 y.1)), [y.2], none, [], [], [0]⟩
  t := fun x α k => (match zk1 N (x.1, ((x.1 : Nat) : Int), 0, (x.2.map dat0)) with | some y5 => (match y5 with | .inl z6 => (k (z6.1, (z6.2.map dat0))) | .inr z7 => (k ((-1), (z7.map dat0)))) | none => none)
noncomputable abbrev zeZ (N : Nat) (x : Nat × (List AV)) : Option (Int × (List AV)) := (JQ N).d x
noncomputable def zcr (N : Nat) : List (Nat × LSpec) := [(4, jj N)]
noncomputable def zhp : Code := Try.f63.body.getD .skip
theorem zlr (N : Nat) : Par (jj N).b := by
  intro x α β kn ke kn' ke' r r' h h1 h2
  revert h
  dsimp only [jj]
  (repeat' (first | (with_reducible refine zg ?_ ?_) | (with_reducible refine zc ?_ ?_) | split)) <;> intro h <;> first | exact h1 _ h | exact h2 _ h | (cases h; done)
theorem ziN (N : Nat) : BdOk (zt Try.prog) (F63b_g N) jG N (zcr N) 4 zhp (jj N) := fun x α kn ke => by kernel_rfl
theorem zl0 (N : Nat) (s : AS) (x : (jj N).X) (hc : s = Zp (jG 4).1 s) (h : (jj N).p s = some x) : s = (jj N).st x := by
  replace h : pNat _ _ _ = some x := h
  obtain ⟨h1, g0⟩ := zS h
  obtain ⟨h2, g1⟩ := zS g0; clear g0
  obtain ⟨a0, h3, g2⟩ := Zz g1; clear g1
  obtain ⟨c4, c5, h6, g3⟩ := jf g2; clear g2
  obtain ⟨rfl, g4⟩ := ze g3; clear g3
  obtain ⟨rfl, g5⟩ := ze g4; clear g4
  obtain ⟨a1, h7, g6⟩ := zi g5; clear g5
  obtain ⟨a2, h8, g7⟩ := zi g6; clear g6
  obtain ⟨a3, h9, g8⟩ := zr g7; clear g7
  clear h
  cases g8
  exact Zt hc h1 h2 rfl rfl rfl ⟨h3, h6, h7, h8, trivial⟩ ⟨h9, trivial⟩
theorem zi0 (N : Nat) : LpOk Try.prog jG N (zcr N) 4 (zd 4 zhp) :=
  zE (zf Try.prog) (zk _) zm jG N (zcr N) 4 zhp (l := []) (by kernel_rfl) (by kernel_rfl) an (jj N) rfl (zl0 N) (fun _ => rfl) (ziN N) (zlr N)
theorem zlF (N : Nat) : ParF (JQ N).t := by
  intro x α β k k' r r' h h1
  revert h
  dsimp only [JQ]
  (repeat' (first | (with_reducible refine zg ?_ ?_) | (with_reducible refine zc ?_ ?_) | split)) <;> intro h <;> first | exact h1 _ h | (cases h; done)
theorem zmE (N : Nat) : TxOk (zt Try.prog) (F63b_g N) jG (lam N (zcr N)) Try.f63 (JQ N) := fun x => by kernel_rfl
theorem F63b_pat (N : Nat) (a : List AV) (b : List (List AV)) (x : (JQ N).X) (h : (JQ N).pat a b = some x) : a = (JQ N).args x ∧ b = (JQ N).bs x := by
  obtain ⟨v1, c2, rfl, g0⟩ := zb (show zj _ _ = some x from h)
  obtain ⟨a0, rfl, g1⟩ := Zz g0; clear g0
  obtain ⟨v3, c4, rfl, g2⟩ := zb g1; clear g1
  obtain ⟨c5, c6, rfl, g3⟩ := jf g2; clear g2
  obtain ⟨rfl, g4⟩ := ze g3; clear g3
  obtain ⟨rfl, g5⟩ := ze g4; clear g4
  obtain ⟨rfl, g6⟩ := ze g5; clear g5
  obtain ⟨a1, c7, rfl, g7⟩ := zb g6; clear g6
  obtain ⟨rfl, g8⟩ := ze g7; clear g7
  clear h
  cases g8
  exact ⟨rfl, rfl⟩
noncomputable def F63b_e (N : Nat) : Ent Try.prog := zB (zf Try.prog) (zk _) zm 63 Try.f63 Try.func63 rfl jG (lam N (zcr N)) (zp (l := [(4, zd 4 zhp)]) (al (zi0 N) an) (by kernel_rfl)) (JQ N) (fun _ => ⟨rfl, rfl⟩) (zmE N) (F63b_pat N) (zlF N)
def zau : Nat → Keep × Keep := anL [(9, ⟨[0, 1, 5, 6], [], [0], [], [], [], [], [0], false⟩, ⟨[0, 5], [], [0], [], [], [], [], [0], false⟩)]
noncomputable def F39_g (N : Nat) : GamK := gam (P := Try.prog) [F63b_e N, F40_e N]
noncomputable def je (N : Nat) : LSpec where
  X := Nat × Int × Int × (List AV)
  Y := (Nat × Int × (List AV))
  p := fun s => pNat s.env.length 42 <| pNat s.nin 1 <| pVs0 0 38 (s.at 0) fun a0 => pFn 40 (s.at 1) fun c4 c5 => pEnd c4 <| pEnd c5 <| pInt .i64 (s.at 5) fun a1 => pInt .i64 (s.at 6) fun a2 => zT (s.bx 0) fun a3 => some (a0, a1, a2, a3)
  st := fun u9 => mkS 42 [(0, (AV.vs 0 0 u9.1 38)), (1, (AV.fn (.func 40) [] [])), (5, (AV.v (.int .i64 u9.2.1))), (6, (AV.v (.int .i64 u9.2.2.1)))] [(0, u9.2.2.2)] (zau 9).1.toks 1
  out := fun y => (.exit 0, mkS 42 [(0, (AV.vs 0 0 y.1 38)), (5, (AV.v (.int .i64 y.2.1)))] [(0, y.2.2)] (zau 9).2.toks 1)
  sp := fun y α k => k (.exit 0, mkS 42 [(0, (AV.vs 0 0 y.1 38)), (5, (AV.v (.int .i64 y.2.1)))] [(0, y.2.2)] (zau 9).2.toks 1)
  spe := fun y α k => rfl
  b := fun u9 α kn ke => (match (decide (u9.2.2.1 < ((u9.1 : Nat) : Int))) with | true => (if 0 ≤ u9.2.2.1 ∧ u9.2.2.1 < (u9.1 : Int) then (match Rrd3 (u9.2.2.2.drop ((0 + u9.2.2.1.toNat) * 38)) with | some e4 => (match zih N e4 with | some y5 => (match (!y5) with | true => (if 0 ≤ u9.2.1 ∧ u9.2.1 < (u9.1 : Int) then (if ((0 + u9.2.1.toNat) * 38) + 38 ≤ u9.2.2.2.length then (kn (u9.1, (i64 (u9.2.1 + 1)), (i64 (u9.2.2.1 + 1)), ((splice u9.2.2.2 ((0 + u9.2.1.toNat) * 38) (Ren3 e4)).map dat0))) else none) else none) | false => (kn (u9.1, u9.2.1, (i64 (u9.2.2.1 + 1)), (u9.2.2.2.map dat0)))) | none => none) | none => none) else none) | false => (ke (u9.1, u9.2.1, (u9.2.2.2.map dat0))))
noncomputable abbrev F39_d9 (N : Nat) (x : Nat × Int × Int × (List AV)) : Option ((Nat × Int × (List AV))) := (je N).L N x
noncomputable def zcE (N : Nat) : FSpec where
  X := Nat × (List AV)
  Y := Nat × (List AV) × (List AV)
  ash := [[none], [none]]
  bsh := [[]]
  S := ⟨[[some 2000038]], [[]], [], [], [0]⟩
  bm := false
  pat := fun a b => zj a fun v1 c2 => pVs0 0 38 v1 fun a0 => zj c2 fun v3 c4 => pFn 40 v3 fun c5 c6 => pEnd c5 <| pEnd c6 <| pEnd c4 <| zj b fun a1 c7 => pEnd c7 <| some (a0, a1)
  args := fun x => [(AV.vs 0 0 x.1 38), (AV.fn (.func 40) [] [])]
  bs := fun x => [x.2]
  ret := fun y => ⟨(AV.vs 0 0 y.1 38), [y.2.1], some y.2.2, [], [], [0]⟩
  t := fun x α k => (match zeZ N (x.1, (x.2.map dat0)) with | some y1 => (match (y1.1 == (-1)) with | true => (k (x.1, (y1.2.map dat0), ([] : List AV))) | false => (match F39_d9 N (x.1, y1.1, (i64 (y1.1 + 1)), (y1.2.map dat0)) with | some y6 => (if 0 ≤ y6.2.1 ∧ y6.2.1 ≤ (y6.1 : Int) then (if ((0 + y6.2.1.toNat) + (y6.1 - y6.2.1.toNat)) * 38 ≤ y6.2.2.length then (if 0 ≤ y6.2.1 ∧ y6.2.1 ≤ (y6.1 : Int) then (k ((y6.2.1.toNat), ((splice y6.2.2 ((0 + y6.2.1.toNat) * 38) (reps ((AV.v (.int .i64 0)) :: (AV.v (.bool false)) :: (AV.v (.string (⟨#[]⟩ : ByteArray))) :: (AV.v (.string (⟨#[]⟩ : ByteArray))) :: (AV.v (.string (⟨#[]⟩ : ByteArray))) :: (AV.v (.string (⟨#[]⟩ : ByteArray))) :: (AV.v (.int .i64 0)) :: (AV.v (.int .i64 0)) :: (AV.v (.int .i64 0)) :: (AV.v (.int .i64 0)) :: (AV.v (.int .i64 0)) :: (AV.v (.int .i64 0)) :: (AV.v (.string (⟨#[]⟩ : ByteArray))) :: (AV.v (.string (⟨#[]⟩ : ByteArray))) :: (AV.v (.string (⟨#[]⟩ : ByteArray))) :: (AV.v (.string (⟨#[]⟩ : ByteArray))) :: (AV.v (.int .i64 0)) :: (AV.v (.int .i64 0)) :: (AV.v (.int .i64 0)) :: (AV.v (.int .i64 0)) :: (AV.v (.int .i64 0)) :: (AV.v (.slice none 0 0)) :: (AV.v (.int .i64 0)) :: (AV.v (.int .i64 0)) :: (AV.v (.int .i64 0)) :: (AV.v (.int .i64 0)) :: (AV.v (.int .i64 0)) :: (AV.v (.int .i64 0)) :: (AV.v (.int .i64 0)) :: (AV.v (.int .i64 0)) :: (AV.v (.int .i64 0)) :: (AV.v (.int .i64 0)) :: (AV.v (.int .i64 0)) :: (AV.v (.int .i64 0)) :: (AV.v (.int .i64 0)) :: (AV.v (.int .i64 0)) :: (AV.v (.int .i64 0)) :: (AV.v (.int .i64 0)) :: []) (y6.1 - y6.2.1.toNat))).map dat0), ([] : List AV))) else none) else none) else none) | none => none)) | none => none)
noncomputable abbrev F39_d (N : Nat) (x : Nat × (List AV)) : Option (Nat × (List AV) × (List AV)) := (zcE N).d x
noncomputable def zeX (N : Nat) : List (Nat × LSpec) := [(9, je N)]
noncomputable def F39_c : Code := Try.f39.body.getD .skip
theorem F39_par9 (N : Nat) : Par (je N).b := by
  intro x α β kn ke kn' ke' r r' h h1 h2
  revert h
  dsimp only [je]
  (repeat' (first | (with_reducible refine zg ?_ ?_) | (with_reducible refine zc ?_ ?_) | split)) <;> intro h <;> first | exact h1 _ h | exact h2 _ h | (cases h; done)
theorem zla (N : Nat) : BdOk (zt Try.prog) (F39_g N) zau N (zeX N) 9 F39_c (je N) := fun x α kn ke => by kernel_rfl
theorem F39_pat9 (N : Nat) (s : AS) (x : (je N).X) (hc : s = Zp (zau 9).1 s) (h : (je N).p s = some x) : s = (je N).st x := by
  replace h : pNat _ _ _ = some x := h
  obtain ⟨h1, g0⟩ := zS h
  obtain ⟨h2, g1⟩ := zS g0; clear g0
  obtain ⟨a0, h3, g2⟩ := Zz g1; clear g1
  obtain ⟨c4, c5, h6, g3⟩ := jf g2; clear g2
  obtain ⟨rfl, g4⟩ := ze g3; clear g3
  obtain ⟨rfl, g5⟩ := ze g4; clear g4
  obtain ⟨a1, h7, g6⟩ := zi g5; clear g5
  obtain ⟨a2, h8, g7⟩ := zi g6; clear g6
  obtain ⟨a3, h9, g8⟩ := zr g7; clear g7
  clear h
  cases g8
  exact Zt hc h1 h2 rfl rfl rfl ⟨h3, h6, h7, h8, trivial⟩ ⟨h9, trivial⟩
theorem zmR (N : Nat) : LpOk Try.prog zau N (zeX N) 9 (zd 9 F39_c) :=
  zE (zf Try.prog) (zk _) zm zau N (zeX N) 9 F39_c (l := []) (by kernel_rfl) (by kernel_rfl) an (je N) rfl (F39_pat9 N) (fun _ => rfl) (zla N) (F39_par9 N)
theorem F39_parF (N : Nat) : ParF (zcE N).t := by
  intro x α β k k' r r' h h1
  revert h
  dsimp only [zcE]
  (repeat' (first | (with_reducible refine zg ?_ ?_) | (with_reducible refine zc ?_ ?_) | split)) <;> intro h <;> first | exact h1 _ h | (cases h; done)
theorem F39_text (N : Nat) : TxOk (zt Try.prog) (F39_g N) zau (lam N (zeX N)) Try.f39 (zcE N) := fun x => by kernel_rfl
theorem F39_pat (N : Nat) (a : List AV) (b : List (List AV)) (x : (zcE N).X) (h : (zcE N).pat a b = some x) : a = (zcE N).args x ∧ b = (zcE N).bs x := by
  obtain ⟨v1, c2, rfl, g0⟩ := zb (show zj _ _ = some x from h)
  obtain ⟨a0, rfl, g1⟩ := Zz g0; clear g0
  obtain ⟨v3, c4, rfl, g2⟩ := zb g1; clear g1
  obtain ⟨c5, c6, rfl, g3⟩ := jf g2; clear g2
  obtain ⟨rfl, g4⟩ := ze g3; clear g3
  obtain ⟨rfl, g5⟩ := ze g4; clear g4
  obtain ⟨rfl, g6⟩ := ze g5; clear g5
  obtain ⟨a1, c7, rfl, g7⟩ := zb g6; clear g6
  obtain ⟨rfl, g8⟩ := ze g7; clear g7
  clear h
  cases g8
  exact ⟨rfl, rfl⟩
noncomputable def F39_e (N : Nat) : Ent Try.prog := zB (zf Try.prog) (zk _) zm 39 Try.f39 Try.func39 rfl zau (lam N (zeX N)) (zp (l := [(9, zd 9 F39_c)]) (al (zmR N) an) (by kernel_rfl)) (zcE N) (fun _ => ⟨rfl, rfl⟩) (F39_text N) (F39_pat N) (F39_parF N)
def F20_an : Nat → Keep × Keep := anL []
noncomputable def F20_g (N : Nat) : GamK := gam (P := Try.prog) [F30a_e N, F39_e N]
noncomputable def zio (N : Nat) : FSpec where
  X := (List (List AV))
  Y := Nat × (List AV)
  ash := [[some 38]]
  bsh := []
  S := ⟨[[some 2000038]], [], [], [], []⟩
  bm := false
  pat := fun a b => rdA [.lst 38] [] a b fun ⟨a0, _⟩ _ => a0
  args := fun x => [(AV.list 38 x none)]
  bs := fun x => []
  ret := fun y => ⟨(AV.vs 0 0 y.1 38), [], some y.2, [], [], []⟩
  t := fun x α k => (match zhd N x with | some y1 => (match F39_d N (y1.1, ((y1.2.map dat0).map dat0)) with | some y2 => (k (y2.1, (y2.2.1.map dat0))) | none => none) | none => none)
noncomputable abbrev F20_d (N : Nat) (x : (List (List AV))) : Option (Nat × (List AV)) := (zio N).d x
theorem F20_parF (N : Nat) : ParF (zio N).t := by
  intro x α β k k' r r' h h1
  revert h
  dsimp only [zio]
  (repeat' (first | (with_reducible refine zg ?_ ?_) | (with_reducible refine zc ?_ ?_) | split)) <;> intro h <;> first | exact h1 _ h | (cases h; done)
theorem F20_text (N : Nat) : TxOk (tabB Try.prog [4]) (F20_g N) F20_an (lam N []) Try.f20 (zio N) := fun x => by kernel_rfl
noncomputable def F20_e (N : Nat) : Ent Try.prog := zB (zL Try.prog [4]) (zk _) zm 20 Try.f20 Try.func20 rfl F20_an (lam N []) (zp (l := []) an (by kernel_rfl)) (zio N) (fun _ => ⟨rfl, rfl⟩) (F20_text N) (fun _ _ _ h => zA h (fun _ _ => rfl) (fun _ _ => rfl)) (F20_parF N)
end Go.Proofs.Ytnnfpoelkdgjdaa
end
