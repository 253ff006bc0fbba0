/- Functions without memory. (written by sx.py) -/
import Derived.Test.YtaanjciokdpkmaaDoorUtX
namespace Go.Proofs.YtaanjciokdpkmaaDoor
open Go.RowKit
set_option linter.unusedVariables false
set_option linter.unusedSimpArgs false
set_option linter.unnecessarySimpa false
set_option maxRecDepth 4000
/-! ### seismonet/seismonetmade.Mod (function 21) -/
def F21_an : Nat → Keep × Keep := anL []
noncomputable def F21_g (N : Nat) : GamK := gam (P := Tryd.prog) []
noncomputable def F21_s (N : Nat) : FSpec where
  X := Int × Int
  Y := Int
  ash := [[none], [none]]
  bsh := []
  S := ⟨[[none]], [], [], [], []⟩
  bm := false
  pat := fun a b => match a, b with
    | [(AV.v (.int .i64 a0)), (AV.v (.int .i64 a1))], [] => some (a0, a1)
    | _, _ => none
  args := fun x => [(AV.v (.int .i64 x.1)), (AV.v (.int .i64 x.2))]
  bs := fun x => []
  ret := fun y => ⟨(AV.v (.int .i64 y)), [], none, [], [], []⟩
  t := fun x α k => (if x.2 = 0 then none else (if x.2 = 0 then none else (k ((i64 ((x.1.tmod x.2) + x.2)).tmod x.2))))
noncomputable abbrev F21_d (N : Nat) (x : Int × Int) : Option (Int) := (F21_s N).d x
theorem F21_parF (N : Nat) : ParF (F21_s N).t := by
  intro x α β k k' r r' h h1
  revert h
  dsimp only [F21_s]
  (repeat' (first | (with_reducible refine par_ite ?_ ?_) | (with_reducible refine par_both ?_ ?_) | split)) <;> intro h <;> first | exact h1 _ h | (cases h; done)
theorem F21_text (N : Nat) (x : (F21_s N).X) : acall (tabOf Tryd.prog) (F21_g N) F21_an (lam N []) Tryd.f21 (F21_s N).S ((F21_s N).args x) ((F21_s N).bs x) = (F21_s N).t x Ret (fun y => some ((F21_s N).ret y)) := by kernel_rfl
theorem F21_pat (N : Nat) (a : List AV) (b : List (List AV)) (x : (F21_s N).X) (h : (F21_s N).pat a b = some x) : a = (F21_s N).args x ∧ b = (F21_s N).bs x := by
  dsimp only [F21_s] at h
  split at h
  · cases h; exact ⟨rfl, rfl⟩
  · cases h
noncomputable def F21_e (N : Nat) : Ent Tryd.prog := entOf (tabOf_ok Tryd.prog) (gam_ok _) mixed 21 Tryd.f21 Tryd.func21 rfl F21_an (lam N []) (by
    have e : actOf F21_an (Tryd.f21.body.getD .skip) 0 = [] := by kernel_rfl
    rw [e]
    intro p hp
    cases hp) (F21_s N) (fun _ => ⟨rfl, rfl⟩) (F21_text N) (F21_pat N) (F21_parF N)
/-! ### seismonet/seismonetlaw01.times (function 20) -/
def F20_an : Nat → Keep × Keep := anL [(5, ⟨[0, 14, 15], [(7, 1)], [0], [(1, 1)], [], [], [], [], false⟩, ⟨[], [(7, 1)], [0], [], [], [], [], [], false⟩)]
noncomputable def F20_g (N : Nat) : GamK := gam (P := Tryd.prog) [F21_e N, F19_e N]
noncomputable def F20_l5 (N : Nat) : LSpec where
  X := (List (List AV)) × (List (List AV)) × Int × Int × (List (List AV)) × Int
  Y := ((List (List AV)) × (List (List AV)) × Int)
  p := fun s => match s.env.length, s.nin, s.at 7, s.at 1, s.at 0, s.at 14, s.at 15, s.bx 0 with
    | 37, 1, (AV.list 1 a0 (some 1280000448)), (AV.list 1 a1 none), (AV.ptr 0 0), (AV.v (.int .i64 a2)), (AV.v (.int .i64 a3)), some [(AV.list 1 a4 none), (AV.v (.int .i64 a5))] => some (a0, a1, a2, a3, a4, a5)
    | _, _, _, _, _, _, _, _ => none
  st := fun x => mkS 37 [(7, (AV.list 1 x.1 (some 1280000448))), (1, (AV.list 1 x.2.1 none)), (0, (AV.ptr 0 0)), (14, (AV.v (.int .i64 x.2.2.1))), (15, (AV.v (.int .i64 x.2.2.2.1)))] [(0, [(AV.list 1 x.2.2.2.2.1 none), (AV.v (.int .i64 x.2.2.2.2.2))])] (F20_an 5).1.toks 1
  out := fun y => (.exit 0, mkS 37 [(7, (AV.list 1 y.1 (some 1280000448)))] [(0, [(AV.list 1 y.2.1 none), (AV.v (.int .i64 y.2.2))])] (F20_an 5).2.toks 1)
  sp := fun y α k => k (.exit 0, mkS 37 [(7, (AV.list 1 y.1 (some 1280000448)))] [(0, [(AV.list 1 y.2.1 none), (AV.v (.int .i64 y.2.2))])] (F20_an 5).2.toks 1)
  spe := fun y α k => rfl
  b := fun x α kn ke => (match (decide (x.2.2.2.1 < x.2.2.1)) with | true => (if 0 ≤ x.2.2.2.1 then (match x.2.1[x.2.2.2.1.toNat]? with | some c8 => (match c8[0]? with | some x9 => (match x9 with | .v (.int q11 n10) => (if q11 = .i64 then (match F19_d N (3, x.2.2.2.2.1, x.2.2.2.2.2) with | some y12 => (match F19_d N (2, y12.2.1, y12.2.2) with | some y13 => (if (x.1.length + [[(AV.v (.int .i64 (i64 ((i64 ((i64 ((i64 (n10 * 1000000)) + (i64 (y12.1 * 1000000)))) - 1000000)) + (i64 (y13.1 * 999999))))))]].length) * 8 ≤ maxBytes then (kn ((x.1 ++ [[(AV.v (.int .i64 (i64 ((i64 ((i64 ((i64 (n10 * 1000000)) + (i64 (y12.1 * 1000000)))) - 1000000)) + (i64 (y13.1 * 999999))))))]]), x.2.1, x.2.2.1, (i64 (x.2.2.2.1 + 1)), y13.2.1, y13.2.2)) else none) | none => none) | none => none) else none) | _ => none) | none => none) | none => none) else none) | false => (ke (x.1, x.2.2.2.2.1, x.2.2.2.2.2)))
noncomputable abbrev F20_d5 (N : Nat) (x : (List (List AV)) × (List (List AV)) × Int × Int × (List (List AV)) × Int) : Option (((List (List AV)) × (List (List AV)) × Int)) := (F20_l5 N).L N x
noncomputable def F20_s (N : Nat) : FSpec where
  X := (List (List AV)) × Int × (List (List AV)) × Int
  Y := (List (List AV)) × (List (List AV)) × Int
  ash := [[none], [some 1], [none]]
  bsh := [[some 1, none]]
  S := ⟨[[some 2000001]], [[some 1, none]], [], [], []⟩
  bm := false
  pat := fun a b => match a, b with
    | [(AV.ptr 0 0), (AV.list 1 a0 none), (AV.v (.int .i64 a1))], [[(AV.list 1 a2 none), (AV.v (.int .i64 a3))]] => some (a0, a1, a2, a3)
    | _, _ => none
  args := fun x => [(AV.ptr 0 0), (AV.list 1 x.1 none), (AV.v (.int .i64 x.2.1))]
  bs := fun x => [[(AV.list 1 x.2.2.1 none), (AV.v (.int .i64 x.2.2.2))]]
  ret := fun y => ⟨(AV.list 1 y.1 (some 2560000000)), [[(AV.list 1 y.2.1 none), (AV.v (.int .i64 y.2.2))]], none, [], [2560000000], []⟩
  t := fun x α k => (match F21_d N (x.2.1, 9007199254740993) with | some y1 => (match F20_d5 N ([[(AV.v (.int .i64 x.2.1))], [(AV.v (.int .i64 0))], [(AV.v (.int .i64 9007199254740992))], [(AV.v (.int .i64 9007199254740993))], [(AV.v (.int .i64 (-1)))], [(AV.v (.int .i64 y1))]], x.1, (x.1.length : Int), 0, x.2.2.1, x.2.2.2) with | some y14 => (k (y14.1, y14.2.1, y14.2.2)) | none => none) | none => none)
noncomputable abbrev F20_d (N : Nat) (x : (List (List AV)) × Int × (List (List AV)) × Int) : Option ((List (List AV)) × (List (List AV)) × Int) := (F20_s N).d x
theorem F20_par5 (N : Nat) : Par (F20_l5 N).b := by
  intro x α β kn ke kn' ke' r r' h h1 h2
  revert h
  dsimp only [F20_l5]
  (repeat' (first | (with_reducible refine par_ite ?_ ?_) | (with_reducible refine par_both ?_ ?_) | split)) <;> intro h <;> first | exact h1 _ h | exact h2 _ h | (cases h; done)
theorem F20_body5 (N : Nat) (x : (F20_l5 N).X) (α : Type) (kn : AS → Option α) (ke : Out → Option α) : around (tabOf Tryd.prog) (F20_g N) F20_an (lam N [(5, F20_l5 N)]) 5 (bodyOf (nthLoop 5 (Tryd.f20.body.getD .skip))) ((F20_l5 N).st x) kn ke = (F20_l5 N).b x α (fun x' => kn ((F20_l5 N).st x')) (fun y => (F20_l5 N).sp y α ke) := by kernel_rfl
theorem F20_pat5 (N : Nat) (s : AS) (x : (F20_l5 N).X) (hc : s = canon (F20_an 5).1 s) (h : (F20_l5 N).p s = some x) : s = (F20_l5 N).st x := by
  dsimp only [F20_l5] at h
  split at h
  · cases h
    exact canon_mk hc ‹_› ‹_› rfl rfl rfl ⟨‹_›, ‹_›, ‹_›, ‹_›, ‹_›, trivial⟩ ⟨‹_›, trivial⟩
  · cases h
theorem F20_loop5 (N : Nat) : ∀ s o, s = canon (F20_an 5).1 s → (lam N [(5, F20_l5 N)]).v 5 s = some o → LoopSem Tryd.prog (nthLoop 5 (Tryd.f20.body.getD .skip)) s o :=
  loop_ok (tabOf_ok Tryd.prog) (gam_ok _) mixed F20_an N [(5, F20_l5 N)] 5 (bodyOf (nthLoop 5 (Tryd.f20.body.getD .skip))) (nthLoop 5 (Tryd.f20.body.getD .skip)) (by kernel_rfl) (by
    have e : actOf F20_an (bodyOf (nthLoop 5 (Tryd.f20.body.getD .skip))) (5 + 1) = [] := by kernel_rfl
    rw [e]
    intro p hp
    cases hp) (F20_l5 N) rfl (fun s x hc h => F20_pat5 N s x hc h) (fun x => rfl) (fun x α kn ke => (F20_body5 N x α kn ke).trans (congrArg ((F20_l5 N).b x α _) (funext fun y => (F20_l5 N).spe y α ke))) (F20_par5 N)
theorem F20_parF (N : Nat) : ParF (F20_s N).t := by
  intro x α β k k' r r' h h1
  revert h
  dsimp only [F20_s]
  (repeat' (first | (with_reducible refine par_ite ?_ ?_) | (with_reducible refine par_both ?_ ?_) | split)) <;> intro h <;> first | exact h1 _ h | (cases h; done)
theorem F20_text (N : Nat) (x : (F20_s N).X) : acall (tabOf Tryd.prog) (F20_g N) F20_an (lam N [(5, F20_l5 N)]) Tryd.f20 (F20_s N).S ((F20_s N).args x) ((F20_s N).bs x) = (F20_s N).t x Ret (fun y => some ((F20_s N).ret y)) := by kernel_rfl
theorem F20_pat (N : Nat) (a : List AV) (b : List (List AV)) (x : (F20_s N).X) (h : (F20_s N).pat a b = some x) : a = (F20_s N).args x ∧ b = (F20_s N).bs x := by
  dsimp only [F20_s] at h
  split at h
  · cases h; exact ⟨rfl, rfl⟩
  · cases h
noncomputable def F20_e (N : Nat) : Ent Tryd.prog := entOf (tabOf_ok Tryd.prog) (gam_ok _) mixed 20 Tryd.f20 Tryd.func20 rfl F20_an (lam N [(5, F20_l5 N)]) (by
    have e : actOf F20_an (Tryd.f20.body.getD .skip) 0 = [(5, nthLoop 5 (Tryd.f20.body.getD .skip))] := by kernel_rfl
    rw [e]
    intro p hp
    rcases List.mem_cons.1 hp with rfl | hp
    · exact F20_loop5 N
    cases hp) (F20_s N) (fun _ => ⟨rfl, rfl⟩) (F20_text N) (F20_pat N) (F20_parF N)
/-! ### seismonet/seismonetlaw01.UtcBack (function 6) -/
def F6_an : Nat → Keep × Keep := anL [(10, ⟨[30, 31], [], [], [(6, 1), (29, 1)], [], [], [], [], false⟩, ⟨[4], [], [], [], [], [], [], [], false⟩)]
noncomputable def F6_g (N : Nat) : GamK := gam (P := Tryd.prog) [F13_e N, F12_e N, F14_e N, F15_e N, F21_e N, F20_e N, F22_e N, F18_e N, F23_e N, F16_e N, F24_e N]
noncomputable def F6_l10 (N : Nat) : LSpec where
  X := (List (List AV)) × (List (List AV)) × Int × Int
  Y := (Bool) ⊕ (Unit)
  p := fun s => match s.env.length, s.nin, s.at 6, s.at 29, s.at 30, s.at 31 with
    | 93, 0, (AV.list 1 a0 none), (AV.list 1 a1 none), (AV.v (.int .i64 a2)), (AV.v (.int .i64 a3)) => some (a0, a1, a2, a3)
    | _, _, _, _, _, _ => none
  st := fun x => mkS 93 [(6, (AV.list 1 x.1 none)), (29, (AV.list 1 x.2.1 none)), (30, (AV.v (.int .i64 x.2.2.1))), (31, (AV.v (.int .i64 x.2.2.2)))] [] (F6_an 10).1.toks 0
  out := fun y => match y with
    | .inl y => (.ret, mkS 93 [(4, (AV.v (.bool y)))] [] (F6_an 10).2.toks 0)
    | .inr y => (.exit 0, mkS 93 [] [] (F6_an 10).2.toks 0)
  sp := fun y α k => match y with
    | .inl y => k (.ret, mkS 93 [(4, (AV.v (.bool y)))] [] (F6_an 10).2.toks 0)
    | .inr y => k (.exit 0, mkS 93 [] [] (F6_an 10).2.toks 0)
  spe := fun y α k => by rcases y with _ | _ <;> rfl
  b := fun x α kn ke => (match (decide (x.2.2.2 < x.2.2.1)) with | true => (if 0 ≤ x.2.2.2 then (match x.2.1[x.2.2.2.toNat]? with | some c7 => (match c7[0]? with | some x8 => (match x8 with | .v (.int q10 n9) => (if q10 = .i64 then (match F22_d N (n9, 0, 9007199254740992) with | some y11 => (match (!y11) with | true => (kn (x.1, x.2.1, x.2.2.1, (i64 (x.2.2.2 + 1)))) | false => (match F18_d N (x.1, n9) with | some y12 => (match F23_d N (x.1, y12.1, y12.2.1, y12.2.2.1, y12.2.2.2.1, y12.2.2.2.2.1, y12.2.2.2.2.2.1, y12.2.2.2.2.2.2.1) with | some y13 => (match F16_d N (x.1, n9) with | some y14 => (match F24_d N (x.1, y14.1) with | some y15 => (match (y12.2.2.2.2.2.2.2 != 0) with | true => (ke (.inl false)) | false => (match (y13.2 != 0) with | true => (ke (.inl false)) | false => (match (y14.2 != 0) with | true => (ke (.inl false)) | false => (match (y15.2 != 0) with | true => (ke (.inl false)) | false => (match (y13.1 != n9) with | true => (ke (.inl false)) | false => (match (y15.1 != n9) with | true => (ke (.inl false)) | false => (match ((y14.1.size : Int) != 27) with | true => (ke (.inl false)) | false => (kn (x.1, x.2.1, x.2.2.1, (i64 (x.2.2.2 + 1))))))))))) | none => none) | none => none) | none => none) | none => none)) | none => none) else none) | _ => none) | none => none) | none => none) else none) | false => (ke (.inr ())))
noncomputable abbrev F6_d10 (N : Nat) (x : (List (List AV)) × (List (List AV)) × Int × Int) : Option ((Bool) ⊕ (Unit)) := (F6_l10 N).L N x
noncomputable def F6_s (N : Nat) : FSpec where
  X := (List (List AV)) × Int
  Y := Bool
  ash := [[some 1], [none]]
  bsh := []
  S := ⟨[[none]], [], [], [], []⟩
  bm := false
  pat := fun a b => match a, b with
    | [(AV.list 1 a0 none), (AV.v (.int .i64 a1))], [] => some (a0, a1)
    | _, _ => none
  args := fun x => [(AV.list 1 x.1 none), (AV.v (.int .i64 x.2))]
  bs := fun x => []
  ret := fun y => ⟨(AV.v (.bool y)), [], none, [], [], []⟩
  t := fun x α k => (match F13_d N x.1 with | some y1 => (match (!y1) with | true => (match F12_d N () with | some y2 => (k y2) | none => none) | false => (match F14_d N x.1 with | some y3 => (match F15_d N (y3.1, y3.2) with | some y4 => (match F21_d N (x.2, 4000000000000000) with | some y5 => (match F20_d N (y4.1, y5, y4.2.1, y4.2.2) with | some y6 => (match F6_d10 N (y4.1, y6.1, (y6.1.length : Int), 0) with | some y16 => (match y16 with | .inl z17 => (k z17) | .inr z18 => (match F12_d N () with | some y19 => (k y19) | none => none)) | none => none) | none => none) | none => none) | none => none) | none => none)) | none => none)
noncomputable abbrev F6_d (N : Nat) (x : (List (List AV)) × Int) : Option (Bool) := (F6_s N).d x
theorem F6_par10 (N : Nat) : Par (F6_l10 N).b := by
  intro x α β kn ke kn' ke' r r' h h1 h2
  revert h
  dsimp only [F6_l10]
  (repeat' (first | (with_reducible refine par_ite ?_ ?_) | (with_reducible refine par_both ?_ ?_) | split)) <;> intro h <;> first | exact h1 _ h | exact h2 _ h | (cases h; done)
theorem F6_body10 (N : Nat) (x : (F6_l10 N).X) (α : Type) (kn : AS → Option α) (ke : Out → Option α) : around (tabOf Tryd.prog) (F6_g N) F6_an (lam N [(10, F6_l10 N)]) 10 (bodyOf (nthLoop 10 (Tryd.f6.body.getD .skip))) ((F6_l10 N).st x) kn ke = (F6_l10 N).b x α (fun x' => kn ((F6_l10 N).st x')) (fun y => (F6_l10 N).sp y α ke) := by kernel_rfl
theorem F6_pat10 (N : Nat) (s : AS) (x : (F6_l10 N).X) (hc : s = canon (F6_an 10).1 s) (h : (F6_l10 N).p s = some x) : s = (F6_l10 N).st x := by
  dsimp only [F6_l10] at h
  split at h
  · cases h
    exact canon_mk hc ‹_› ‹_› rfl rfl rfl ⟨‹_›, ‹_›, ‹_›, ‹_›, trivial⟩ trivial
  · cases h
theorem F6_loop10 (N : Nat) : ∀ s o, s = canon (F6_an 10).1 s → (lam N [(10, F6_l10 N)]).v 10 s = some o → LoopSem Tryd.prog (nthLoop 10 (Tryd.f6.body.getD .skip)) s o :=
  loop_ok (tabOf_ok Tryd.prog) (gam_ok _) mixed F6_an N [(10, F6_l10 N)] 10 (bodyOf (nthLoop 10 (Tryd.f6.body.getD .skip))) (nthLoop 10 (Tryd.f6.body.getD .skip)) (by kernel_rfl) (by
    have e : actOf F6_an (bodyOf (nthLoop 10 (Tryd.f6.body.getD .skip))) (10 + 1) = [] := by kernel_rfl
    rw [e]
    intro p hp
    cases hp) (F6_l10 N) rfl (fun s x hc h => F6_pat10 N s x hc h) (fun x => rfl) (fun x α kn ke => (F6_body10 N x α kn ke).trans (congrArg ((F6_l10 N).b x α _) (funext fun y => (F6_l10 N).spe y α ke))) (F6_par10 N)
theorem F6_parF (N : Nat) : ParF (F6_s N).t := by
  intro x α β k k' r r' h h1
  revert h
  dsimp only [F6_s]
  (repeat' (first | (with_reducible refine par_ite ?_ ?_) | (with_reducible refine par_both ?_ ?_) | split)) <;> intro h <;> first | exact h1 _ h | (cases h; done)
theorem F6_text (N : Nat) (x : (F6_s N).X) : acall (tabOf Tryd.prog) (F6_g N) F6_an (lam N [(10, F6_l10 N)]) Tryd.f6 (F6_s N).S ((F6_s N).args x) ((F6_s N).bs x) = (F6_s N).t x Ret (fun y => some ((F6_s N).ret y)) := by kernel_rfl
theorem F6_pat (N : Nat) (a : List AV) (b : List (List AV)) (x : (F6_s N).X) (h : (F6_s N).pat a b = some x) : a = (F6_s N).args x ∧ b = (F6_s N).bs x := by
  dsimp only [F6_s] at h
  split at h
  · cases h; exact ⟨rfl, rfl⟩
  · cases h
noncomputable def F6_e (N : Nat) : Ent Tryd.prog := entOf (tabOf_ok Tryd.prog) (gam_ok _) mixed 6 Tryd.f6 Tryd.func6 rfl F6_an (lam N [(10, F6_l10 N)]) (by
    have e : actOf F6_an (Tryd.f6.body.getD .skip) 0 = [(10, nthLoop 10 (Tryd.f6.body.getD .skip))] := by kernel_rfl
    rw [e]
    intro p hp
    rcases List.mem_cons.1 hp with rfl | hp
    · exact F6_loop10 N
    cases hp) (F6_s N) (fun _ => ⟨rfl, rfl⟩) (F6_text N) (F6_pat N) (F6_parF N)
end Go.Proofs.YtaanjciokdpkmaaDoor
