/- Functions without memory. (written by sx.py) -/
import Derived.Test.YtlpebecbipjoaaaDoorNaT
namespace Go.Proofs.YtlpebecbipjoaaaDoor
open Go.RowKit
set_option linter.unusedVariables false
set_option linter.unusedSimpArgs false
set_option linter.unnecessarySimpa false
set_option maxRecDepth 4000
/-! ### seismonet/nat.digit (function 39) -/
def F39_an : Nat → Keep × Keep := anL []
noncomputable def F39_g (N : Nat) : GamK := gam (P := Tryd.prog) []
noncomputable def F39_s (N : Nat) : FSpec where
  X := (List (List AV)) × Int
  Y := Int
  ash := [[some 1], [none]]
  bsh := []
  S := ⟨[[none]], [], [], [], []⟩
  bm := false
  pat := fun a b => match a, b with
    | [(AV.list 1 a0 none), (AV.v (.int .i64 a1))], [] => some (a0, a1)
    | _, _ => none
  args := fun x => [(AV.list 1 x.1 none), (AV.v (.int .i64 x.2))]
  bs := fun x => []
  ret := fun y => ⟨(AV.v (.int .i64 y)), [], none, [], [], []⟩
  t := fun x α k => (match (decide (x.2 ≥ (x.1.length : Int))) with | true => (k 0) | false => (if 0 ≤ x.2 then (match x.1[x.2.toNat]? with | some c1 => (match c1[0]? with | some x2 => (match x2 with | .v (.int q4 n3) => (if q4 = .i64 then (k n3) else none) | _ => none) | none => none) | none => none) else none))
noncomputable abbrev F39_d (N : Nat) (x : (List (List AV)) × Int) : Option (Int) := (F39_s N).d x
theorem F39_parF (N : Nat) : ParF (F39_s N).t := by
  intro x α β k k' r r' h h1
  revert h
  dsimp only [F39_s]
  (repeat' (first | (with_reducible refine par_ite ?_ ?_) | (with_reducible refine par_both ?_ ?_) | split)) <;> intro h <;> first | exact h1 _ h | (cases h; done)
theorem F39_text (N : Nat) (x : (F39_s N).X) : acall (tabOf Tryd.prog) (F39_g N) F39_an (lam N []) Tryd.f39 (F39_s N).S ((F39_s N).args x) ((F39_s N).bs x) = (F39_s N).t x Ret (fun y => some ((F39_s N).ret y)) := by kernel_rfl
theorem F39_pat (N : Nat) (a : List AV) (b : List (List AV)) (x : (F39_s N).X) (h : (F39_s N).pat a b = some x) : a = (F39_s N).args x ∧ b = (F39_s N).bs x := by
  dsimp only [F39_s] at h
  split at h
  · cases h; exact ⟨rfl, rfl⟩
  · cases h
noncomputable def F39_e (N : Nat) : Ent Tryd.prog := entOf (tabOf_ok Tryd.prog) (gam_ok _) mixed 39 Tryd.f39 Tryd.func39 rfl F39_an (lam N []) (by
    have e : actOf F39_an (Tryd.f39.body.getD .skip) 0 = [] := by kernel_rfl
    rw [e]
    intro p hp
    cases hp) (F39_s N) (fun _ => ⟨rfl, rfl⟩) (F39_text N) (F39_pat N) (F39_parF N)
/-! ### seismonet/nat.Add (function 16) -/
def F16_an : Nat → Keep × Keep := anL [(10, ⟨[7, 18, 19], [(6, 1)], [], [(0, 1), (1, 1)], [], [], [], [], false⟩, ⟨[], [(6, 1)], [], [], [], [], [], [], false⟩)]
noncomputable def F16_g (N : Nat) : GamK := gam (P := Tryd.prog) [F37_e N, F39_e N, F36_e N]
noncomputable def F16_l10 (N : Nat) : LSpec where
  X := (List (List AV)) × (List (List AV)) × (List (List AV)) × Int × Int × Int
  Y := ((List (List AV)))
  p := fun s => match s.env.length, s.nin, s.at 6, s.at 0, s.at 1, s.at 7, s.at 18, s.at 19 with
    | 43, 0, (AV.list 1 a0 (some 1280000384)), (AV.list 1 a1 none), (AV.list 1 a2 none), (AV.v (.int .i64 a3)), (AV.v (.int .i64 a4)), (AV.v (.int .i64 a5)) => some (a0, a1, a2, a3, a4, a5)
    | _, _, _, _, _, _, _, _ => none
  st := fun x => mkS 43 [(6, (AV.list 1 x.1 (some 1280000384))), (0, (AV.list 1 x.2.1 none)), (1, (AV.list 1 x.2.2.1 none)), (7, (AV.v (.int .i64 x.2.2.2.1))), (18, (AV.v (.int .i64 x.2.2.2.2.1))), (19, (AV.v (.int .i64 x.2.2.2.2.2)))] [] (F16_an 10).1.toks 0
  out := fun y => (.exit 0, mkS 43 [(6, (AV.list 1 y (some 1280000384)))] [] (F16_an 10).2.toks 0)
  sp := fun y α k => k (.exit 0, mkS 43 [(6, (AV.list 1 y (some 1280000384)))] [] (F16_an 10).2.toks 0)
  spe := fun y α k => rfl
  b := fun x α kn ke => (match (decide (x.2.2.2.2.2 < x.2.2.2.2.1)) with | true => (match F39_d N (x.2.1, x.2.2.2.2.2) with | some y2 => (match F39_d N (x.2.2.1, x.2.2.2.2.2) with | some y3 => (if (x.1.length + [[(AV.v (.int .i64 ((i64 (x.2.2.2.1 + (i64 (y2 + y3)))).tmod 1073741824)))]].length) * 8 ≤ maxBytes then (kn ((x.1 ++ [[(AV.v (.int .i64 ((i64 (x.2.2.2.1 + (i64 (y2 + y3)))).tmod 1073741824)))]]), x.2.1, x.2.2.1, (shR .i64 (i64 (x.2.2.2.1 + (i64 (y2 + y3)))) (30 : Int)), x.2.2.2.2.1, (i64 (x.2.2.2.2.2 + 1)))) else none) | none => none) | none => none) | false => (ke x.1))
noncomputable abbrev F16_d10 (N : Nat) (x : (List (List AV)) × (List (List AV)) × (List (List AV)) × Int × Int × Int) : Option (((List (List AV)))) := (F16_l10 N).L N x
noncomputable def F16_s (N : Nat) : FSpec where
  X := (List (List AV)) × (List (List AV))
  Y := (List (List AV)) × Int
  ash := [[some 1], [some 1]]
  bsh := []
  S := ⟨[[some 1], [none]], [], [], [], []⟩
  bm := false
  pat := fun a b => match a, b with
    | [(AV.list 1 a0 none), (AV.list 1 a1 none)], [] => some (a0, a1)
    | _, _ => none
  args := fun x => [(AV.list 1 x.1 none), (AV.list 1 x.2 none)]
  bs := fun x => []
  ret := fun y => ⟨(AV.tup [(AV.list 1 y.1 none), (AV.v (.int .i64 y.2))]), [], none, [], [], []⟩
  t := fun x α k => (match F37_d N (x.1, x.2) with | some y1 => (match (!y1) with | true => (k (([] : List (List AV)), 1)) | false => (match F16_d10 N (([] : List (List AV)), x.1, x.2, 0, (i64 ((if (x.2.length : Int) > (x.1.length : Int) then (x.2.length : Int) else (x.1.length : Int)) + 1)), 0) with | some y4 => (match F36_d N y4 with | some y5 => (k (y5.1, y5.2)) | none => none) | none => none)) | none => none)
noncomputable abbrev F16_d (N : Nat) (x : (List (List AV)) × (List (List AV))) : Option ((List (List AV)) × Int) := (F16_s N).d x
theorem F16_par10 (N : Nat) : Par (F16_l10 N).b := by
  intro x α β kn ke kn' ke' r r' h h1 h2
  revert h
  dsimp only [F16_l10]
  (repeat' (first | (with_reducible refine par_ite ?_ ?_) | (with_reducible refine par_both ?_ ?_) | split)) <;> intro h <;> first | exact h1 _ h | exact h2 _ h | (cases h; done)
theorem F16_body10 (N : Nat) (x : (F16_l10 N).X) (α : Type) (kn : AS → Option α) (ke : Out → Option α) : around (tabOf Tryd.prog) (F16_g N) F16_an (lam N [(10, F16_l10 N)]) 10 (bodyOf (nthLoop 10 (Tryd.f16.body.getD .skip))) ((F16_l10 N).st x) kn ke = (F16_l10 N).b x α (fun x' => kn ((F16_l10 N).st x')) (fun y => (F16_l10 N).sp y α ke) := by kernel_rfl
theorem F16_pat10 (N : Nat) (s : AS) (x : (F16_l10 N).X) (hc : s = canon (F16_an 10).1 s) (h : (F16_l10 N).p s = some x) : s = (F16_l10 N).st x := by
  dsimp only [F16_l10] at h
  split at h
  · cases h
    exact canon_mk hc ‹_› ‹_› rfl rfl rfl ⟨‹_›, ‹_›, ‹_›, ‹_›, ‹_›, ‹_›, trivial⟩ trivial
  · cases h
theorem F16_loop10 (N : Nat) : ∀ s o, s = canon (F16_an 10).1 s → (lam N [(10, F16_l10 N)]).v 10 s = some o → LoopSem Tryd.prog (nthLoop 10 (Tryd.f16.body.getD .skip)) s o :=
  loop_ok (tabOf_ok Tryd.prog) (gam_ok _) mixed F16_an N [(10, F16_l10 N)] 10 (bodyOf (nthLoop 10 (Tryd.f16.body.getD .skip))) (nthLoop 10 (Tryd.f16.body.getD .skip)) (by kernel_rfl) (by
    have e : actOf F16_an (bodyOf (nthLoop 10 (Tryd.f16.body.getD .skip))) (10 + 1) = [] := by kernel_rfl
    rw [e]
    intro p hp
    cases hp) (F16_l10 N) rfl (fun s x hc h => F16_pat10 N s x hc h) (fun x => rfl) (fun x α kn ke => (F16_body10 N x α kn ke).trans (congrArg ((F16_l10 N).b x α _) (funext fun y => (F16_l10 N).spe y α ke))) (F16_par10 N)
theorem F16_parF (N : Nat) : ParF (F16_s N).t := by
  intro x α β k k' r r' h h1
  revert h
  dsimp only [F16_s]
  (repeat' (first | (with_reducible refine par_ite ?_ ?_) | (with_reducible refine par_both ?_ ?_) | split)) <;> intro h <;> first | exact h1 _ h | (cases h; done)
theorem F16_text (N : Nat) (x : (F16_s N).X) : acall (tabOf Tryd.prog) (F16_g N) F16_an (lam N [(10, F16_l10 N)]) Tryd.f16 (F16_s N).S ((F16_s N).args x) ((F16_s N).bs x) = (F16_s N).t x Ret (fun y => some ((F16_s N).ret y)) := by kernel_rfl
theorem F16_pat (N : Nat) (a : List AV) (b : List (List AV)) (x : (F16_s N).X) (h : (F16_s N).pat a b = some x) : a = (F16_s N).args x ∧ b = (F16_s N).bs x := by
  dsimp only [F16_s] at h
  split at h
  · cases h; exact ⟨rfl, rfl⟩
  · cases h
noncomputable def F16_e (N : Nat) : Ent Tryd.prog := entOf (tabOf_ok Tryd.prog) (gam_ok _) mixed 16 Tryd.f16 Tryd.func16 rfl F16_an (lam N [(10, F16_l10 N)]) (by
    have e : actOf F16_an (Tryd.f16.body.getD .skip) 0 = [(10, nthLoop 10 (Tryd.f16.body.getD .skip))] := by kernel_rfl
    rw [e]
    intro p hp
    rcases List.mem_cons.1 hp with rfl | hp
    · exact F16_loop10 N
    cases hp) (F16_s N) (fun _ => ⟨rfl, rfl⟩) (F16_text N) (F16_pat N) (F16_parF N)
/-! ### seismonet/seismonetlaw17.NatFractions$1 (function 15) -/
def F15_an : Nat → Keep × Keep := anL []
noncomputable def F15_g (N : Nat) : GamK := gam (P := Tryd.prog) [F16_e N]
noncomputable def F15_s (N : Nat) : FSpec where
  X := (List (List AV)) × (List (List AV))
  Y := (List (List AV)) × (List (List AV))
  ash := [[some 1], [none]]
  bsh := [[some 2000001]]
  S := ⟨[[some 1]], [[some 2000001]], [], [6400000000], []⟩
  bm := false
  pat := fun a b => match a, b with
    | [(AV.list 1 a0 none), (AV.ptr 0 0)], [[(AV.list 1 a1 (some 6400000000))]] => some (a0, a1)
    | _, _ => none
  args := fun x => [(AV.list 1 x.1 none), (AV.ptr 0 0)]
  bs := fun x => [[(AV.list 1 x.2 (some 6400000000))]]
  ret := fun y => ⟨(AV.list 1 y.1 none), [[(AV.list 1 y.2 (some 6400000000))]], none, [6400000000], [6400000000], []⟩
  t := fun x α k => (match F16_d N (x.1, x.2) with | some y1 => (k (y1.1, x.2)) | none => none)
noncomputable abbrev F15_d (N : Nat) (x : (List (List AV)) × (List (List AV))) : Option ((List (List AV)) × (List (List AV))) := (F15_s N).d x
theorem F15_parF (N : Nat) : ParF (F15_s N).t := by
  intro x α β k k' r r' h h1
  revert h
  dsimp only [F15_s]
  (repeat' (first | (with_reducible refine par_ite ?_ ?_) | (with_reducible refine par_both ?_ ?_) | split)) <;> intro h <;> first | exact h1 _ h | (cases h; done)
theorem F15_text (N : Nat) (x : (F15_s N).X) : acall (tabOf Tryd.prog) (F15_g N) F15_an (lam N []) Tryd.f15 (F15_s N).S ((F15_s N).args x) ((F15_s N).bs x) = (F15_s N).t x Ret (fun y => some ((F15_s N).ret y)) := by kernel_rfl
theorem F15_pat (N : Nat) (a : List AV) (b : List (List AV)) (x : (F15_s N).X) (h : (F15_s N).pat a b = some x) : a = (F15_s N).args x ∧ b = (F15_s N).bs x := by
  dsimp only [F15_s] at h
  split at h
  · cases h; exact ⟨rfl, rfl⟩
  · cases h
noncomputable def F15_e (N : Nat) : Ent Tryd.prog := entOf (tabOf_ok Tryd.prog) (gam_ok _) mixed 15 Tryd.f15 Tryd.func15 rfl F15_an (lam N []) (by
    have e : actOf F15_an (Tryd.f15.body.getD .skip) 0 = [] := by kernel_rfl
    rw [e]
    intro p hp
    cases hp) (F15_s N) (fun _ => ⟨rfl, rfl⟩) (F15_text N) (F15_pat N) (F15_parF N)
/-! ### seismonet/nat.ValidFraction (function 40) -/
def F40_an : Nat → Keep × Keep := anL []
noncomputable def F40_g (N : Nat) : GamK := gam (P := Tryd.prog) [F29_e N]
noncomputable def F40_s (N : Nat) : FSpec where
  X := (List (List AV)) × (List (List AV))
  Y := Bool
  ash := [[some 1, some 1]]
  bsh := []
  S := ⟨[[none]], [], [], [], []⟩
  bm := false
  pat := fun a b => match a, b with
    | [(AV.agg [(AV.list 1 a0 none), (AV.list 1 a1 none)])], [] => some (a0, a1)
    | _, _ => none
  args := fun x => [(AV.agg [(AV.list 1 x.1 none), (AV.list 1 x.2 none)])]
  bs := fun x => []
  ret := fun y => ⟨(AV.v (.bool y)), [], none, [], [], []⟩
  t := fun x α k => (match F29_d N x.1 with | some y1 => (match y1 with | true => (match F29_d N x.2 with | some y2 => (match y2 with | true => (k (decide ((x.2.length : Int) > 0))) | false => (k false)) | none => none) | false => (k false)) | none => none)
noncomputable abbrev F40_d (N : Nat) (x : (List (List AV)) × (List (List AV))) : Option (Bool) := (F40_s N).d x
theorem F40_parF (N : Nat) : ParF (F40_s N).t := by
  intro x α β k k' r r' h h1
  revert h
  dsimp only [F40_s]
  (repeat' (first | (with_reducible refine par_ite ?_ ?_) | (with_reducible refine par_both ?_ ?_) | split)) <;> intro h <;> first | exact h1 _ h | (cases h; done)
theorem F40_text (N : Nat) (x : (F40_s N).X) : acall (tabOf Tryd.prog) (F40_g N) F40_an (lam N []) Tryd.f40 (F40_s N).S ((F40_s N).args x) ((F40_s N).bs x) = (F40_s N).t x Ret (fun y => some ((F40_s N).ret y)) := by kernel_rfl
theorem F40_pat (N : Nat) (a : List AV) (b : List (List AV)) (x : (F40_s N).X) (h : (F40_s N).pat a b = some x) : a = (F40_s N).args x ∧ b = (F40_s N).bs x := by
  dsimp only [F40_s] at h
  split at h
  · cases h; exact ⟨rfl, rfl⟩
  · cases h
noncomputable def F40_e (N : Nat) : Ent Tryd.prog := entOf (tabOf_ok Tryd.prog) (gam_ok _) mixed 40 Tryd.f40 Tryd.func40 rfl F40_an (lam N []) (by
    have e : actOf F40_an (Tryd.f40.body.getD .skip) 0 = [] := by kernel_rfl
    rw [e]
    intro p hp
    cases hp) (F40_s N) (fun _ => ⟨rfl, rfl⟩) (F40_text N) (F40_pat N) (F40_parF N)
/-! ### seismonet/nat.multiply (function 41) -/
def F41_an : Nat → Keep × Keep := anF [(5, ⟨[5, 17, 18], [], [15], [(1, 1), (16, 1)], [], [], [], [15], false⟩, ⟨[5], [], [15], [], [], [], [], [15], false⟩), (15, ⟨[5, 6, 7, 8, 17, 18, 25, 26], [], [15], [(1, 1), (16, 1)], [], [], [], [15], false⟩, ⟨[5, 17, 18], [], [15], [(1, 1), (16, 1)], [], [], [], [15], false⟩)] [(100015, ([5], []))]
noncomputable def F41_g (N : Nat) : GamK := gam (P := Tryd.prog) [F39_e N, F46_e N]
noncomputable def F41_l15 (N : Nat) : LSpec where
  X := (List (List AV)) × (List (List AV)) × Nat × Int × Int × Int × Int × Int × Int × Int × (List AV)
  Y := ((List (List AV)) × (List (List AV)) × Nat × Int × Int × (List AV))
  p := fun s => match s.env.length, s.nin, s.at 1, s.at 16, s.at 5, s.at 6, s.at 7, s.at 8, s.at 17, s.at 18, s.at 25, s.at 26, s.bx 15 with
    | 62, 0, (AV.list 1 a0 none), (AV.list 1 a1 none), (AV.vs 15 0 a2 1), (AV.v (.int .i64 a3)), (AV.v (.int .i64 a4)), (AV.v (.int .i64 a5)), (AV.v (.int .i64 a6)), (AV.v (.int .i64 a7)), (AV.v (.int .i64 a8)), (AV.v (.int .i64 a9)), some a10 => some (a0, a1, a2, a3, a4, a5, a6, a7, a8, a9, a10)
    | _, _, _, _, _, _, _, _, _, _, _, _, _ => none
  st := fun x => mkS 62 [(1, (AV.list 1 x.1 none)), (16, (AV.list 1 x.2.1 none)), (5, (AV.vs 15 0 x.2.2.1 1)), (6, (AV.v (.int .i64 x.2.2.2.1))), (7, (AV.v (.int .i64 x.2.2.2.2.1))), (8, (AV.v (.int .i64 x.2.2.2.2.2.1))), (17, (AV.v (.int .i64 x.2.2.2.2.2.2.1))), (18, (AV.v (.int .i64 x.2.2.2.2.2.2.2.1))), (25, (AV.v (.int .i64 x.2.2.2.2.2.2.2.2.1))), (26, (AV.v (.int .i64 x.2.2.2.2.2.2.2.2.2.1)))] [(15, x.2.2.2.2.2.2.2.2.2.2)] (F41_an 15).1.toks 0
  out := fun y => (.exit 2, mkS 62 [(1, (AV.list 1 y.1 none)), (16, (AV.list 1 y.2.1 none)), (5, (AV.vs 15 0 y.2.2.1 1)), (17, (AV.v (.int .i64 y.2.2.2.1))), (18, (AV.v (.int .i64 y.2.2.2.2.1)))] [(15, y.2.2.2.2.2)] (F41_an 15).2.toks 0)
  sp := fun y α k => k (.exit 2, mkS 62 [(1, (AV.list 1 y.1 none)), (16, (AV.list 1 y.2.1 none)), (5, (AV.vs 15 0 y.2.2.1 1)), (17, (AV.v (.int .i64 y.2.2.2.1))), (18, (AV.v (.int .i64 y.2.2.2.2.1)))] [(15, y.2.2.2.2.2)] (F41_an 15).2.toks 0)
  spe := fun y α k => rfl
  b := fun x α kn ke => (match (decide (x.2.2.2.2.2.2.2.2.2.1 < x.2.2.2.2.2.2.2.2.1)) with | true => (match (decide ((i64 (x.2.2.2.1 + x.2.2.2.2.2.2.2.2.2.1)) < ((x.2.2.1 : Nat) : Int))) with | true => (if 0 ≤ (i64 (x.2.2.2.1 + x.2.2.2.2.2.2.2.2.2.1)) ∧ (i64 (x.2.2.2.1 + x.2.2.2.2.2.2.2.2.2.1)) < (x.2.2.1 : Int) then (match x.2.2.2.2.2.2.2.2.2.2[((0 + (i64 (x.2.2.2.1 + x.2.2.2.2.2.2.2.2.2.1)).toNat) * 1)]? with | some x9 => (match x9 with | .v (.int q11 n10) => (if q11 = .i64 then (match F39_d N (x.1, x.2.2.2.2.2.2.2.2.2.1) with | some y12 => (if 0 ≤ (i64 (x.2.2.2.1 + x.2.2.2.2.2.2.2.2.2.1)) ∧ (i64 (x.2.2.2.1 + x.2.2.2.2.2.2.2.2.2.1)) < (x.2.2.1 : Int) then (if ((0 + (i64 (x.2.2.2.1 + x.2.2.2.2.2.2.2.2.2.1)).toNat) * 1) + 1 ≤ x.2.2.2.2.2.2.2.2.2.2.length then (kn (x.1, x.2.1, x.2.2.1, x.2.2.2.1, x.2.2.2.2.1, (shR .i64 (i64 (x.2.2.2.2.2.1 + (i64 (n10 + (i64 (x.2.2.2.2.1 * y12)))))) (30 : Int)), x.2.2.2.2.2.2.1, x.2.2.2.2.2.2.2.1, x.2.2.2.2.2.2.2.2.1, (i64 (x.2.2.2.2.2.2.2.2.2.1 + 1)), ((x.2.2.2.2.2.2.2.2.2.2.set (((0 + (i64 (x.2.2.2.1 + x.2.2.2.2.2.2.2.2.2.1)).toNat) * 1)) (AV.v (.int .i64 ((i64 (x.2.2.2.2.2.1 + (i64 (n10 + (i64 (x.2.2.2.2.1 * y12)))))).tmod 1073741824)))).map dat0))) else none) else none) | none => none) else none) | _ => none) | none => none) else none) | false => (kn (x.1, x.2.1, x.2.2.1, x.2.2.2.1, x.2.2.2.2.1, x.2.2.2.2.2.1, x.2.2.2.2.2.2.1, x.2.2.2.2.2.2.2.1, x.2.2.2.2.2.2.2.2.1, (i64 (x.2.2.2.2.2.2.2.2.2.1 + 1)), (x.2.2.2.2.2.2.2.2.2.2.map dat0)))) | false => (ke (x.1, x.2.1, x.2.2.1, x.2.2.2.2.2.2.1, x.2.2.2.2.2.2.2.1, (x.2.2.2.2.2.2.2.2.2.2.map dat0))))
noncomputable abbrev F41_d15 (N : Nat) (x : (List (List AV)) × (List (List AV)) × Nat × Int × Int × Int × Int × Int × Int × Int × (List AV)) : Option (((List (List AV)) × (List (List AV)) × Nat × Int × Int × (List AV))) := (F41_l15 N).L N x
noncomputable def F41_l5 (N : Nat) : LSpec where
  X := (List (List AV)) × (List (List AV)) × Nat × Int × Int × (List AV)
  Y := (Nat × (List AV))
  p := fun s => match s.env.length, s.nin, s.at 1, s.at 16, s.at 5, s.at 17, s.at 18, s.bx 15 with
    | 62, 0, (AV.list 1 a0 none), (AV.list 1 a1 none), (AV.vs 15 0 a2 1), (AV.v (.int .i64 a3)), (AV.v (.int .i64 a4)), some a5 => some (a0, a1, a2, a3, a4, a5)
    | _, _, _, _, _, _, _, _ => none
  st := fun x => mkS 62 [(1, (AV.list 1 x.1 none)), (16, (AV.list 1 x.2.1 none)), (5, (AV.vs 15 0 x.2.2.1 1)), (17, (AV.v (.int .i64 x.2.2.2.1))), (18, (AV.v (.int .i64 x.2.2.2.2.1)))] [(15, x.2.2.2.2.2)] (F41_an 5).1.toks 0
  out := fun y => (.exit 0, mkS 62 [(5, (AV.vs 15 0 y.1 1))] [(15, y.2)] (F41_an 5).2.toks 0)
  sp := fun y α k => k (.exit 0, mkS 62 [(5, (AV.vs 15 0 y.1 1))] [(15, y.2)] (F41_an 5).2.toks 0)
  spe := fun y α k => rfl
  b := fun x α kn ke => (match (decide (x.2.2.2.2.1 < x.2.2.2.1)) with | true => (if 0 ≤ x.2.2.2.2.1 then (match x.2.1[x.2.2.2.2.1.toNat]? with | some c14 => (match c14[0]? with | some x15 => (match x15 with | .v (.int q17 n16) => (if q17 = .i64 then (match F41_d15 N (x.1, x.2.1, x.2.2.1, x.2.2.2.2.1, n16, 0, x.2.2.2.1, x.2.2.2.2.1, (i64 ((x.1.length : Int) + 1)), 0, (x.2.2.2.2.2.map dat0)) with | some y18 => (kn (y18.1, y18.2.1, y18.2.2.1, y18.2.2.2.1, (i64 (y18.2.2.2.2.1 + 1)), (y18.2.2.2.2.2.map dat0))) | none => none) else none) | _ => none) | none => none) | none => none) else none) | false => (ke (x.2.2.1, (x.2.2.2.2.2.map dat0))))
noncomputable abbrev F41_d5 (N : Nat) (x : (List (List AV)) × (List (List AV)) × Nat × Int × Int × (List AV)) : Option ((Nat × (List AV))) := (F41_l5 N).L N x
noncomputable def F41_s (N : Nat) : FSpec where
  X := (List (List AV)) × (List (List AV))
  Y := (List (List AV))
  ash := [[some 1], [some 1]]
  bsh := []
  S := ⟨[[some 1]], [], [], [], []⟩
  bm := false
  pat := fun a b => match a, b with
    | [(AV.list 1 a0 none), (AV.list 1 a1 none)], [] => some (a0, a1)
    | _, _ => none
  args := fun x => [(AV.list 1 x.1 none), (AV.list 1 x.2 none)]
  bs := fun x => []
  ret := fun y => ⟨(AV.list 1 y none), [], none, [], [], []⟩
  t := fun x α k => (if 0 ≤ (i64 ((x.1.length : Int) + (x.2.length : Int))) ∧ (i64 ((x.1.length : Int) + (x.2.length : Int))) ≤ (i64 ((x.1.length : Int) + (x.2.length : Int))) ∧ (i64 ((x.1.length : Int) + (x.2.length : Int))).toNat * 8 ≤ maxBytes then (match F41_d5 N (x.2, x.1, ((i64 ((x.1.length : Int) + (x.2.length : Int))).toNat), (x.1.length : Int), 0, ((List.replicate (i64 ((x.1.length : Int) + (x.2.length : Int))).toNat (AV.v (.int .i64 0))).map dat0)) with | some y19 => (if y19.1 * 1 ≤ y19.2.length then (match F46_d N (chunks (y19.2.take (y19.1 * 1)) 1 y19.1) with | some y20 => (k y20) | none => none) else none) | none => none) else none)
noncomputable abbrev F41_d (N : Nat) (x : (List (List AV)) × (List (List AV))) : Option ((List (List AV))) := (F41_s N).d x
theorem F41_par15 (N : Nat) : Par (F41_l15 N).b := by
  intro x α β kn ke kn' ke' r r' h h1 h2
  revert h
  dsimp only [F41_l15]
  (repeat' (first | (with_reducible refine par_ite ?_ ?_) | (with_reducible refine par_both ?_ ?_) | split)) <;> intro h <;> first | exact h1 _ h | exact h2 _ h | (cases h; done)
theorem F41_body15 (N : Nat) (x : (F41_l15 N).X) (α : Type) (kn : AS → Option α) (ke : Out → Option α) : around (tabOf Tryd.prog) (F41_g N) F41_an (lam N [(5, F41_l5 N), (15, F41_l15 N)]) 15 (bodyOf (nthLoop 15 (Tryd.f41.body.getD .skip))) ((F41_l15 N).st x) kn ke = (F41_l15 N).b x α (fun x' => kn ((F41_l15 N).st x')) (fun y => (F41_l15 N).sp y α ke) := by kernel_rfl
theorem F41_pat15 (N : Nat) (s : AS) (x : (F41_l15 N).X) (hc : s = canon (F41_an 15).1 s) (h : (F41_l15 N).p s = some x) : s = (F41_l15 N).st x := by
  dsimp only [F41_l15] at h
  split at h
  · cases h
    exact canon_mk hc ‹_› ‹_› rfl rfl rfl ⟨‹_›, ‹_›, ‹_›, ‹_›, ‹_›, ‹_›, ‹_›, ‹_›, ‹_›, ‹_›, trivial⟩ ⟨‹_›, trivial⟩
  · cases h
theorem F41_loop15 (N : Nat) : ∀ s o, s = canon (F41_an 15).1 s → (lam N [(5, F41_l5 N), (15, F41_l15 N)]).v 15 s = some o → LoopSem Tryd.prog (nthLoop 15 (Tryd.f41.body.getD .skip)) s o :=
  loop_ok (tabOf_ok Tryd.prog) (gam_ok _) mixed F41_an N [(5, F41_l5 N), (15, F41_l15 N)] 15 (bodyOf (nthLoop 15 (Tryd.f41.body.getD .skip))) (nthLoop 15 (Tryd.f41.body.getD .skip)) (by kernel_rfl) (by
    have e : actOf F41_an (bodyOf (nthLoop 15 (Tryd.f41.body.getD .skip))) (15 + 1) = [] := by kernel_rfl
    rw [e]
    intro p hp
    cases hp) (F41_l15 N) rfl (fun s x hc h => F41_pat15 N s x hc h) (fun x => rfl) (fun x α kn ke => (F41_body15 N x α kn ke).trans (congrArg ((F41_l15 N).b x α _) (funext fun y => (F41_l15 N).spe y α ke))) (F41_par15 N)
theorem F41_par5 (N : Nat) : Par (F41_l5 N).b := by
  intro x α β kn ke kn' ke' r r' h h1 h2
  revert h
  dsimp only [F41_l5]
  (repeat' (first | (with_reducible refine par_ite ?_ ?_) | (with_reducible refine par_both ?_ ?_) | split)) <;> intro h <;> first | exact h1 _ h | exact h2 _ h | (cases h; done)
theorem F41_body5 (N : Nat) (x : (F41_l5 N).X) (α : Type) (kn : AS → Option α) (ke : Out → Option α) : around (tabOf Tryd.prog) (F41_g N) F41_an (lam N [(5, F41_l5 N), (15, F41_l15 N)]) 5 (bodyOf (nthLoop 5 (Tryd.f41.body.getD .skip))) ((F41_l5 N).st x) kn ke = (F41_l5 N).b x α (fun x' => kn ((F41_l5 N).st x')) (fun y => (F41_l5 N).sp y α ke) := by kernel_rfl
theorem F41_pat5 (N : Nat) (s : AS) (x : (F41_l5 N).X) (hc : s = canon (F41_an 5).1 s) (h : (F41_l5 N).p s = some x) : s = (F41_l5 N).st x := by
  dsimp only [F41_l5] at h
  split at h
  · cases h
    exact canon_mk hc ‹_› ‹_› rfl rfl rfl ⟨‹_›, ‹_›, ‹_›, ‹_›, ‹_›, trivial⟩ ⟨‹_›, trivial⟩
  · cases h
theorem F41_loop5 (N : Nat) : ∀ s o, s = canon (F41_an 5).1 s → (lam N [(5, F41_l5 N), (15, F41_l15 N)]).v 5 s = some o → LoopSem Tryd.prog (nthLoop 5 (Tryd.f41.body.getD .skip)) s o :=
  loop_ok (tabOf_ok Tryd.prog) (gam_ok _) mixed F41_an N [(5, F41_l5 N), (15, F41_l15 N)] 5 (bodyOf (nthLoop 5 (Tryd.f41.body.getD .skip))) (nthLoop 5 (Tryd.f41.body.getD .skip)) (by kernel_rfl) (by
    have e : actOf F41_an (bodyOf (nthLoop 5 (Tryd.f41.body.getD .skip))) (5 + 1) = [(15, nthLoop 15 (Tryd.f41.body.getD .skip))] := by kernel_rfl
    rw [e]
    intro p hp
    rcases List.mem_cons.1 hp with rfl | hp
    · exact F41_loop15 N
    cases hp) (F41_l5 N) rfl (fun s x hc h => F41_pat5 N s x hc h) (fun x => rfl) (fun x α kn ke => (F41_body5 N x α kn ke).trans (congrArg ((F41_l5 N).b x α _) (funext fun y => (F41_l5 N).spe y α ke))) (F41_par5 N)
theorem F41_parF (N : Nat) : ParF (F41_s N).t := by
  intro x α β k k' r r' h h1
  revert h
  dsimp only [F41_s]
  (repeat' (first | (with_reducible refine par_ite ?_ ?_) | (with_reducible refine par_both ?_ ?_) | split)) <;> intro h <;> first | exact h1 _ h | (cases h; done)
theorem F41_text (N : Nat) (x : (F41_s N).X) : acall (tabOf Tryd.prog) (F41_g N) F41_an (lam N [(5, F41_l5 N), (15, F41_l15 N)]) Tryd.f41 (F41_s N).S ((F41_s N).args x) ((F41_s N).bs x) = (F41_s N).t x Ret (fun y => some ((F41_s N).ret y)) := by kernel_rfl
theorem F41_pat (N : Nat) (a : List AV) (b : List (List AV)) (x : (F41_s N).X) (h : (F41_s N).pat a b = some x) : a = (F41_s N).args x ∧ b = (F41_s N).bs x := by
  dsimp only [F41_s] at h
  split at h
  · cases h; exact ⟨rfl, rfl⟩
  · cases h
noncomputable def F41_e (N : Nat) : Ent Tryd.prog := entOf (tabOf_ok Tryd.prog) (gam_ok _) mixed 41 Tryd.f41 Tryd.func41 rfl F41_an (lam N [(5, F41_l5 N), (15, F41_l15 N)]) (by
    have e : actOf F41_an (Tryd.f41.body.getD .skip) 0 = [(5, nthLoop 5 (Tryd.f41.body.getD .skip)), (15, nthLoop 15 (Tryd.f41.body.getD .skip))] := by kernel_rfl
    rw [e]
    intro p hp
    rcases List.mem_cons.1 hp with rfl | hp
    · exact F41_loop5 N
    rcases List.mem_cons.1 hp with rfl | hp
    · exact F41_loop15 N
    cases hp) (F41_s N) (fun _ => ⟨rfl, rfl⟩) (F41_text N) (F41_pat N) (F41_parF N)
/-! ### seismonet/nat.Times (function 18) -/
def F18_an : Nat → Keep × Keep := anL []
noncomputable def F18_g (N : Nat) : GamK := gam (P := Tryd.prog) [F40_e N, F41_e N, F36_e N]
noncomputable def F18_s (N : Nat) : FSpec where
  X := (List (List AV)) × (List (List AV)) × (List (List AV)) × (List (List AV))
  Y := (List (List AV)) × (List (List AV)) × Int
  ash := [[some 1, some 1], [some 1, some 1]]
  bsh := []
  S := ⟨[[some 1, some 1], [none]], [], [], [], []⟩
  bm := false
  pat := fun a b => match a, b with
    | [(AV.agg [(AV.list 1 a0 none), (AV.list 1 a1 none)]), (AV.agg [(AV.list 1 a2 none), (AV.list 1 a3 none)])], [] => some (a0, a1, a2, a3)
    | _, _ => none
  args := fun x => [(AV.agg [(AV.list 1 x.1 none), (AV.list 1 x.2.1 none)]), (AV.agg [(AV.list 1 x.2.2.1 none), (AV.list 1 x.2.2.2 none)])]
  bs := fun x => []
  ret := fun y => ⟨(AV.tup [(AV.agg [(AV.list 1 y.1 none), (AV.list 1 y.2.1 none)]), (AV.v (.int .i64 y.2.2))]), [], none, [], [], []⟩
  t := fun x α k => (match F40_d N (x.1, x.2.1) with | some y1 => (match (!y1) with | true => (k (([] : List (List AV)), ([] : List (List AV)), 1)) | false => (match F40_d N (x.2.2.1, x.2.2.2) with | some y2 => (match (!y2) with | true => (k (([] : List (List AV)), ([] : List (List AV)), 1)) | false => (match F41_d N (x.1, x.2.2.1) with | some y3 => (match F36_d N y3 with | some y4 => (match F41_d N (x.2.1, x.2.2.2) with | some y5 => (match F36_d N y5 with | some y6 => (match (y4.2 != 0) with | true => (k (([] : List (List AV)), ([] : List (List AV)), 8)) | false => (match (y6.2 != 0) with | true => (k (([] : List (List AV)), ([] : List (List AV)), 8)) | false => (k (y4.1, y6.1, 0)))) | none => none) | none => none) | none => none) | none => none)) | none => none)) | none => none)
noncomputable abbrev F18_d (N : Nat) (x : (List (List AV)) × (List (List AV)) × (List (List AV)) × (List (List AV))) : Option ((List (List AV)) × (List (List AV)) × Int) := (F18_s N).d x
theorem F18_parF (N : Nat) : ParF (F18_s N).t := by
  intro x α β k k' r r' h h1
  revert h
  dsimp only [F18_s]
  (repeat' (first | (with_reducible refine par_ite ?_ ?_) | (with_reducible refine par_both ?_ ?_) | split)) <;> intro h <;> first | exact h1 _ h | (cases h; done)
theorem F18_text (N : Nat) (x : (F18_s N).X) : acall (tabOf Tryd.prog) (F18_g N) F18_an (lam N []) Tryd.f18 (F18_s N).S ((F18_s N).args x) ((F18_s N).bs x) = (F18_s N).t x Ret (fun y => some ((F18_s N).ret y)) := by kernel_rfl
theorem F18_pat (N : Nat) (a : List AV) (b : List (List AV)) (x : (F18_s N).X) (h : (F18_s N).pat a b = some x) : a = (F18_s N).args x ∧ b = (F18_s N).bs x := by
  dsimp only [F18_s] at h
  split at h
  · cases h; exact ⟨rfl, rfl⟩
  · cases h
noncomputable def F18_e (N : Nat) : Ent Tryd.prog := entOf (tabOf_ok Tryd.prog) (gam_ok _) mixed 18 Tryd.f18 Tryd.func18 rfl F18_an (lam N []) (by
    have e : actOf F18_an (Tryd.f18.body.getD .skip) 0 = [] := by kernel_rfl
    rw [e]
    intro p hp
    cases hp) (F18_s N) (fun _ => ⟨rfl, rfl⟩) (F18_text N) (F18_pat N) (F18_parF N)
/-! ### seismonet/nat.cross (function 42) -/
def F42_an : Nat → Keep × Keep := anL []
noncomputable def F42_g (N : Nat) : GamK := gam (P := Tryd.prog) [F41_e N, F38_e N]
noncomputable def F42_s (N : Nat) : FSpec where
  X := (List (List AV)) × (List (List AV)) × (List (List AV)) × (List (List AV))
  Y := Int
  ash := [[some 1, some 1], [some 1, some 1]]
  bsh := []
  S := ⟨[[none]], [], [], [], []⟩
  bm := false
  pat := fun a b => match a, b with
    | [(AV.agg [(AV.list 1 a0 none), (AV.list 1 a1 none)]), (AV.agg [(AV.list 1 a2 none), (AV.list 1 a3 none)])], [] => some (a0, a1, a2, a3)
    | _, _ => none
  args := fun x => [(AV.agg [(AV.list 1 x.1 none), (AV.list 1 x.2.1 none)]), (AV.agg [(AV.list 1 x.2.2.1 none), (AV.list 1 x.2.2.2 none)])]
  bs := fun x => []
  ret := fun y => ⟨(AV.v (.int .i64 y)), [], none, [], [], []⟩
  t := fun x α k => (match F41_d N (x.1, x.2.2.2) with | some y1 => (match F41_d N (x.2.2.1, x.2.1) with | some y2 => (match F38_d N (y1, y2) with | some y3 => (k y3) | none => none) | none => none) | none => none)
noncomputable abbrev F42_d (N : Nat) (x : (List (List AV)) × (List (List AV)) × (List (List AV)) × (List (List AV))) : Option (Int) := (F42_s N).d x
theorem F42_parF (N : Nat) : ParF (F42_s N).t := by
  intro x α β k k' r r' h h1
  revert h
  dsimp only [F42_s]
  (repeat' (first | (with_reducible refine par_ite ?_ ?_) | (with_reducible refine par_both ?_ ?_) | split)) <;> intro h <;> first | exact h1 _ h | (cases h; done)
theorem F42_text (N : Nat) (x : (F42_s N).X) : acall (tabOf Tryd.prog) (F42_g N) F42_an (lam N []) Tryd.f42 (F42_s N).S ((F42_s N).args x) ((F42_s N).bs x) = (F42_s N).t x Ret (fun y => some ((F42_s N).ret y)) := by kernel_rfl
theorem F42_pat (N : Nat) (a : List AV) (b : List (List AV)) (x : (F42_s N).X) (h : (F42_s N).pat a b = some x) : a = (F42_s N).args x ∧ b = (F42_s N).bs x := by
  dsimp only [F42_s] at h
  split at h
  · cases h; exact ⟨rfl, rfl⟩
  · cases h
noncomputable def F42_e (N : Nat) : Ent Tryd.prog := entOf (tabOf_ok Tryd.prog) (gam_ok _) mixed 42 Tryd.f42 Tryd.func42 rfl F42_an (lam N []) (by
    have e : actOf F42_an (Tryd.f42.body.getD .skip) 0 = [] := by kernel_rfl
    rw [e]
    intro p hp
    cases hp) (F42_s N) (fun _ => ⟨rfl, rfl⟩) (F42_text N) (F42_pat N) (F42_parF N)
/-! ### seismonet/nat.Equal (function 19) -/
def F19_an : Nat → Keep × Keep := anL []
noncomputable def F19_g (N : Nat) : GamK := gam (P := Tryd.prog) [F40_e N, F42_e N]
noncomputable def F19_s (N : Nat) : FSpec where
  X := (List (List AV)) × (List (List AV)) × (List (List AV)) × (List (List AV))
  Y := Bool × Int
  ash := [[some 1, some 1], [some 1, some 1]]
  bsh := []
  S := ⟨[[none], [none]], [], [], [], []⟩
  bm := false
  pat := fun a b => match a, b with
    | [(AV.agg [(AV.list 1 a0 none), (AV.list 1 a1 none)]), (AV.agg [(AV.list 1 a2 none), (AV.list 1 a3 none)])], [] => some (a0, a1, a2, a3)
    | _, _ => none
  args := fun x => [(AV.agg [(AV.list 1 x.1 none), (AV.list 1 x.2.1 none)]), (AV.agg [(AV.list 1 x.2.2.1 none), (AV.list 1 x.2.2.2 none)])]
  bs := fun x => []
  ret := fun y => ⟨(AV.tup [(AV.v (.bool y.1)), (AV.v (.int .i64 y.2))]), [], none, [], [], []⟩
  t := fun x α k => (match F40_d N (x.1, x.2.1) with | some y1 => (match (!y1) with | true => (k (false, 1)) | false => (match F40_d N (x.2.2.1, x.2.2.2) with | some y2 => (match (!y2) with | true => (k (false, 1)) | false => (match F42_d N (x.1, x.2.1, x.2.2.1, x.2.2.2) with | some y3 => (k ((y3 == 0), 0)) | none => none)) | none => none)) | none => none)
noncomputable abbrev F19_d (N : Nat) (x : (List (List AV)) × (List (List AV)) × (List (List AV)) × (List (List AV))) : Option (Bool × Int) := (F19_s N).d x
theorem F19_parF (N : Nat) : ParF (F19_s N).t := by
  intro x α β k k' r r' h h1
  revert h
  dsimp only [F19_s]
  (repeat' (first | (with_reducible refine par_ite ?_ ?_) | (with_reducible refine par_both ?_ ?_) | split)) <;> intro h <;> first | exact h1 _ h | (cases h; done)
theorem F19_text (N : Nat) (x : (F19_s N).X) : acall (tabOf Tryd.prog) (F19_g N) F19_an (lam N []) Tryd.f19 (F19_s N).S ((F19_s N).args x) ((F19_s N).bs x) = (F19_s N).t x Ret (fun y => some ((F19_s N).ret y)) := by kernel_rfl
theorem F19_pat (N : Nat) (a : List AV) (b : List (List AV)) (x : (F19_s N).X) (h : (F19_s N).pat a b = some x) : a = (F19_s N).args x ∧ b = (F19_s N).bs x := by
  dsimp only [F19_s] at h
  split at h
  · cases h; exact ⟨rfl, rfl⟩
  · cases h
noncomputable def F19_e (N : Nat) : Ent Tryd.prog := entOf (tabOf_ok Tryd.prog) (gam_ok _) mixed 19 Tryd.f19 Tryd.func19 rfl F19_an (lam N []) (by
    have e : actOf F19_an (Tryd.f19.body.getD .skip) 0 = [] := by kernel_rfl
    rw [e]
    intro p hp
    cases hp) (F19_s N) (fun _ => ⟨rfl, rfl⟩) (F19_text N) (F19_pat N) (F19_parF N)
/-! ### seismonet/nat.Less (function 20) -/
def F20_an : Nat → Keep × Keep := anL []
noncomputable def F20_g (N : Nat) : GamK := gam (P := Tryd.prog) [F40_e N, F42_e N]
noncomputable def F20_s (N : Nat) : FSpec where
  X := (List (List AV)) × (List (List AV)) × (List (List AV)) × (List (List AV))
  Y := Bool × Int
  ash := [[some 1, some 1], [some 1, some 1]]
  bsh := []
  S := ⟨[[none], [none]], [], [], [], []⟩
  bm := false
  pat := fun a b => match a, b with
    | [(AV.agg [(AV.list 1 a0 none), (AV.list 1 a1 none)]), (AV.agg [(AV.list 1 a2 none), (AV.list 1 a3 none)])], [] => some (a0, a1, a2, a3)
    | _, _ => none
  args := fun x => [(AV.agg [(AV.list 1 x.1 none), (AV.list 1 x.2.1 none)]), (AV.agg [(AV.list 1 x.2.2.1 none), (AV.list 1 x.2.2.2 none)])]
  bs := fun x => []
  ret := fun y => ⟨(AV.tup [(AV.v (.bool y.1)), (AV.v (.int .i64 y.2))]), [], none, [], [], []⟩
  t := fun x α k => (match F40_d N (x.1, x.2.1) with | some y1 => (match (!y1) with | true => (k (false, 1)) | false => (match F40_d N (x.2.2.1, x.2.2.2) with | some y2 => (match (!y2) with | true => (k (false, 1)) | false => (match F42_d N (x.1, x.2.1, x.2.2.1, x.2.2.2) with | some y3 => (k ((decide (y3 < 0)), 0)) | none => none)) | none => none)) | none => none)
noncomputable abbrev F20_d (N : Nat) (x : (List (List AV)) × (List (List AV)) × (List (List AV)) × (List (List AV))) : Option (Bool × Int) := (F20_s N).d x
theorem F20_parF (N : Nat) : ParF (F20_s N).t := by
  intro x α β k k' r r' h h1
  revert h
  dsimp only [F20_s]
  (repeat' (first | (with_reducible refine par_ite ?_ ?_) | (with_reducible refine par_both ?_ ?_) | split)) <;> intro h <;> first | exact h1 _ h | (cases h; done)
theorem F20_text (N : Nat) (x : (F20_s N).X) : acall (tabOf Tryd.prog) (F20_g N) F20_an (lam N []) Tryd.f20 (F20_s N).S ((F20_s N).args x) ((F20_s N).bs x) = (F20_s N).t x Ret (fun y => some ((F20_s N).ret y)) := by kernel_rfl
theorem F20_pat (N : Nat) (a : List AV) (b : List (List AV)) (x : (F20_s N).X) (h : (F20_s N).pat a b = some x) : a = (F20_s N).args x ∧ b = (F20_s N).bs x := by
  dsimp only [F20_s] at h
  split at h
  · cases h; exact ⟨rfl, rfl⟩
  · cases h
noncomputable def F20_e (N : Nat) : Ent Tryd.prog := entOf (tabOf_ok Tryd.prog) (gam_ok _) mixed 20 Tryd.f20 Tryd.func20 rfl F20_an (lam N []) (by
    have e : actOf F20_an (Tryd.f20.body.getD .skip) 0 = [] := by kernel_rfl
    rw [e]
    intro p hp
    cases hp) (F20_s N) (fun _ => ⟨rfl, rfl⟩) (F20_text N) (F20_pat N) (F20_parF N)
/-! ### seismonet/seismonetlaw17.NatFractions (function 4) -/
def F4_an : Nat → Keep × Keep := anL []
noncomputable def F4_g (N : Nat) : GamK := gam (P := Tryd.prog) [F7_e N, F8_e N, F9_e N, F10_e N, F15_e N, F17_e N, F18_e N, F19_e N, F20_e N]
noncomputable def F4_s (N : Nat) : FSpec where
  X := (List (List AV)) × Int
  Y := Bool
  ash := [[some 1], [none]]
  bsh := []
  S := ⟨[[none]], [], [], [], []⟩
  bm := false
  pat := fun a b => match a, b with
    | [(AV.list 1 a0 none), (AV.v (.int .u16 a1))], [] => some (a0, a1)
    | _, _ => none
  args := fun x => [(AV.list 1 x.1 none), (AV.v (.int .u16 x.2))]
  bs := fun x => []
  ret := fun y => ⟨(AV.v (.bool y)), [], none, [], [], []⟩
  t := fun x α k => (match F7_d N x.1 with | some y1 => (match (!y1) with | true => (match F8_d N () with | some y2 => (k y2) | none => none) | false => (match F9_d N x.1 with | some y3 => (match F10_d N (4, y3.1, y3.2) with | some y4 => (match F10_d N (4, y4.2.1, y4.2.2) with | some y5 => (match F15_d N (y5.1, [[(AV.v (.int .i64 1))]]) with | some y6 => (match F10_d N (4, y5.2.1, y5.2.2) with | some y7 => (match F10_d N (4, y7.2.1, y7.2.2) with | some y8 => (match F15_d N (y8.1, y6.2) with | some y9 => (match F17_d N (i64 (1 + (IntKind.i64.wrap x.2))) with | some y10 => (match F18_d N (y4.1, y6.1, y10.1, y10.1) with | some y11 => (match F19_d N (y4.1, y6.1, y11.1, y11.2.1) with | some y12 => (match F20_d N (y4.1, y6.1, y7.1, y9.1) with | some y13 => (match F20_d N (y11.1, y11.2.1, y7.1, y9.1) with | some y14 => (match F20_d N (y7.1, y9.1, y4.1, y6.1) with | some y15 => (match F19_d N (y4.1, y6.1, y7.1, y9.1) with | some y16 => (match F15_d N (y10.1, y9.2) with | some y17 => (match F18_d N (y4.1, y6.1, y10.1, y17.1) with | some y18 => (match F20_d N (y18.1, y18.2.1, y4.1, y6.1) with | some y19 => (match (y11.2.2 != 0) with | true => (k false) | false => (match (y12.2 != 0) with | true => (k false) | false => (match (y13.2 != 0) with | true => (k false) | false => (match (y14.2 != 0) with | true => (k false) | false => (match (y15.2 != 0) with | true => (k false) | false => (match (y16.2 != 0) with | true => (k false) | false => (match (y18.2.2 != 0) with | true => (k false) | false => (match (y19.2 != 0) with | true => (k false) | false => (match y12.1 with | true => (match (y13.1 == y14.1) with | true => (match y13.1 with | true => (match (!y15.1) with | true => (match (!y13.1) with | true => (match (y16.1 == (!y15.1)) with | true => (match (y19.1 == (decide ((y4.1.length : Int) > 0))) with | true => (match F8_d N () with | some y20 => (k y20) | none => none) | false => (k false)) | false => (k false)) | false => (match (y16.1 == false) with | true => (match (y19.1 == (decide ((y4.1.length : Int) > 0))) with | true => (match F8_d N () with | some y21 => (k y21) | none => none) | false => (k false)) | false => (k false))) | false => (k false)) | false => (match (!y13.1) with | true => (match (y16.1 == (!y15.1)) with | true => (match (y19.1 == (decide ((y4.1.length : Int) > 0))) with | true => (match F8_d N () with | some y22 => (k y22) | none => none) | false => (k false)) | false => (k false)) | false => (match (y16.1 == false) with | true => (match (y19.1 == (decide ((y4.1.length : Int) > 0))) with | true => (match F8_d N () with | some y23 => (k y23) | none => none) | false => (k false)) | false => (k false)))) | false => (k false)) | false => (k false)))))))))) | none => none) | none => none) | none => none) | none => none) | none => none) | none => none) | none => none) | none => none) | none => none) | none => none) | none => none) | none => none) | none => none) | none => none) | none => none) | none => none) | none => none)) | none => none)
noncomputable abbrev F4_d (N : Nat) (x : (List (List AV)) × Int) : Option (Bool) := (F4_s N).d x
theorem F4_parF (N : Nat) : ParF (F4_s N).t := by
  intro x α β k k' r r' h h1
  revert h
  dsimp only [F4_s]
  (repeat' (first | (with_reducible refine par_ite ?_ ?_) | (with_reducible refine par_both ?_ ?_) | split)) <;> intro h <;> first | exact h1 _ h | (cases h; done)
theorem F4_text (N : Nat) (x : (F4_s N).X) : acall (tabOf Tryd.prog) (F4_g N) F4_an (lam N []) Tryd.f4 (F4_s N).S ((F4_s N).args x) ((F4_s N).bs x) = (F4_s N).t x Ret (fun y => some ((F4_s N).ret y)) := by kernel_rfl
theorem F4_pat (N : Nat) (a : List AV) (b : List (List AV)) (x : (F4_s N).X) (h : (F4_s N).pat a b = some x) : a = (F4_s N).args x ∧ b = (F4_s N).bs x := by
  dsimp only [F4_s] at h
  split at h
  · cases h; exact ⟨rfl, rfl⟩
  · cases h
noncomputable def F4_e (N : Nat) : Ent Tryd.prog := entOf (tabOf_ok Tryd.prog) (gam_ok _) mixed 4 Tryd.f4 Tryd.func4 rfl F4_an (lam N []) (by
    have e : actOf F4_an (Tryd.f4.body.getD .skip) 0 = [] := by kernel_rfl
    rw [e]
    intro p hp
    cases hp) (F4_s N) (fun _ => ⟨rfl, rfl⟩) (F4_text N) (F4_pat N) (F4_parF N)
end Go.Proofs.YtlpebecbipjoaaaDoor
