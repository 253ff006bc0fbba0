/- Functions without memory. (written by sx.py) -/
import Derived.Test.YteplhedodcaljaaStU
namespace Go.Proofs.Yteplhedodcaljaa
open Go.RowKit
set_option linter.unusedVariables false
set_option linter.unusedSimpArgs false
set_option linter.unnecessarySimpa false
set_option maxRecDepth 4000
/-! ### seismonet/seismonetlaw05.SteimWords (function 4) -/
def F4_an : Nat → Keep × Keep := anF [(6, ⟨[1, 2, 7, 9], [(8, 1)], [], [], [], [], [], [], false⟩, ⟨[1, 2, 7], [(8, 1)], [], [], [], [], [], [], false⟩), (22, ⟨[1, 7, 10, 11, 12, 13], [], [59], [], [], [], [], [59], false⟩, ⟨[7, 10, 11, 12], [], [59], [], [], [], [], [59], false⟩)] [(100016, ([12], []))]
noncomputable def F4_g (N : Nat) : GamK := gam (P := Try.prog) [F13_e N, F9_e N, F14_e N, F16_e N, F17_e N]
noncomputable def F4_l22 (N : Nat) : LSpec where
  X := Int × Int × Int × Int × Nat × Int × (List AV)
  Y := (Int × Int × Int × Nat × (List AV))
  p := fun s => match s.env.length, s.nin, s.at 1, s.at 7, s.at 10, s.at 11, s.at 12, s.at 13, s.bx 59 with
    | 125, 0, (AV.v (.int .u8 a0)), (AV.v (.int .i64 a1)), (AV.v (.int .i64 a2)), (AV.v (.int .i64 a3)), (AV.vs 59 0 a4 1), (AV.v (.int .i64 a5)), some a6 => some (a0, a1, a2, a3, a4, a5, a6)
    | _, _, _, _, _, _, _, _, _ => none
  st := fun x => mkS 125 [(1, (AV.v (.int .u8 x.1))), (7, (AV.v (.int .i64 x.2.1))), (10, (AV.v (.int .i64 x.2.2.1))), (11, (AV.v (.int .i64 x.2.2.2.1))), (12, (AV.vs 59 0 x.2.2.2.2.1 1)), (13, (AV.v (.int .i64 x.2.2.2.2.2.1)))] [(59, x.2.2.2.2.2.2)] (F4_an 22).1.toks 0
  out := fun y => (.exit 2, mkS 125 [(7, (AV.v (.int .i64 y.1))), (10, (AV.v (.int .i64 y.2.1))), (11, (AV.v (.int .i64 y.2.2.1))), (12, (AV.vs 59 0 y.2.2.2.1 1))] [(59, y.2.2.2.2)] (F4_an 22).2.toks 0)
  sp := fun y α k => k (.exit 2, mkS 125 [(7, (AV.v (.int .i64 y.1))), (10, (AV.v (.int .i64 y.2.1))), (11, (AV.v (.int .i64 y.2.2.1))), (12, (AV.vs 59 0 y.2.2.2.1 1))] [(59, y.2.2.2.2)] (F4_an 22).2.toks 0)
  spe := fun y α k => rfl
  b := fun x α kn ke => (match (decide (x.2.2.2.2.2.1 < x.2.1)) with | true => (if 0 ≤ x.2.2.2.2.2.1 ∧ x.2.2.2.2.2.1 < (x.2.2.2.2.1 : Int) then (match x.2.2.2.2.2.2[((0 + x.2.2.2.2.2.1.toNat) * 1)]? with | some x10 => (match x10 with | .v (.int q12 n11) => (if q12 = .i64 then (if 0 ≤ x.2.2.2.2.2.1 ∧ x.2.2.2.2.2.1 < (x.2.2.2.2.1 : Int) then (if ((0 + x.2.2.2.2.2.1.toNat) * 1) + 1 ≤ x.2.2.2.2.2.2.length then (kn (x.1, x.2.1, x.2.2.1, x.2.2.2.1, x.2.2.2.2.1, (i64 (x.2.2.2.2.2.1 + 1)), ((x.2.2.2.2.2.2.set (((0 + x.2.2.2.2.2.1.toNat) * 1)) (AV.v (.int .i64 (i64 (n11 + (i64 (1000000 + (IntKind.i64.wrap x.1)))))))).map dat0))) else none) else none) else none) | _ => none) | none => none) else none) | false => (ke (x.2.1, x.2.2.1, x.2.2.2.1, x.2.2.2.2.1, (x.2.2.2.2.2.2.map dat0))))
noncomputable abbrev F4_d22 (N : Nat) (x : Int × Int × Int × Int × Nat × Int × (List AV)) : Option ((Int × Int × Int × Nat × (List AV))) := (F4_l22 N).L N x
noncomputable def F4_l6 (N : Nat) : LSpec where
  X := (List (List AV)) × Int × Int × Int × Int
  Y := ((List (List AV)) × Int × Int × Int)
  p := fun s => match s.env.length, s.nin, s.at 8, s.at 1, s.at 2, s.at 7, s.at 9 with
    | 125, 0, (AV.list 1 a0 (some 1280000512)), (AV.v (.int .u8 a1)), (AV.v (.int .u8 a2)), (AV.v (.int .i64 a3)), (AV.v (.int .i64 a4)) => some (a0, a1, a2, a3, a4)
    | _, _, _, _, _, _, _ => none
  st := fun x => mkS 125 [(8, (AV.list 1 x.1 (some 1280000512))), (1, (AV.v (.int .u8 x.2.1))), (2, (AV.v (.int .u8 x.2.2.1))), (7, (AV.v (.int .i64 x.2.2.2.1))), (9, (AV.v (.int .i64 x.2.2.2.2)))] [] (F4_an 6).1.toks 0
  out := fun y => (.exit 0, mkS 125 [(8, (AV.list 1 y.1 (some 1280000512))), (1, (AV.v (.int .u8 y.2.1))), (2, (AV.v (.int .u8 y.2.2.1))), (7, (AV.v (.int .i64 y.2.2.2)))] [] (F4_an 6).2.toks 0)
  sp := fun y α k => k (.exit 0, mkS 125 [(8, (AV.list 1 y.1 (some 1280000512))), (1, (AV.v (.int .u8 y.2.1))), (2, (AV.v (.int .u8 y.2.2.1))), (7, (AV.v (.int .i64 y.2.2.2)))] [] (F4_an 6).2.toks 0)
  spe := fun y α k => rfl
  b := fun x α kn ke => (match (decide (x.2.2.2.2 < x.2.2.2.1)) with | true => (if 0 ≤ (i64 (x.2.2.2.2 - 1)) then (match x.1[(i64 (x.2.2.2.2 - 1)).toNat]? with | some c1 => (match c1[0]? with | some x2 => (match x2 with | .v (.int q4 n3) => (if q4 = .i64 then (if (x.1.length + [[(AV.v (.int .i64 (i64 ((i64 (n3 + (x.2.2.2.2.tmod 5))) - 2))))]].length) * 8 ≤ maxBytes then (kn ((x.1 ++ [[(AV.v (.int .i64 (i64 ((i64 (n3 + (x.2.2.2.2.tmod 5))) - 2))))]]), x.2.1, x.2.2.1, x.2.2.2.1, (i64 (x.2.2.2.2 + 1)))) else none) else none) | _ => none) | none => none) | none => none) else none) | false => (ke (x.1, x.2.1, x.2.2.1, x.2.2.2.1)))
noncomputable abbrev F4_d6 (N : Nat) (x : (List (List AV)) × Int × Int × Int × Int) : Option (((List (List AV)) × Int × Int × Int)) := (F4_l6 N).L N x
noncomputable def F4_s (N : Nat) : FSpec where
  X := Int × Int × Int
  Y := Bool
  ash := [[none], [none], [none]]
  bsh := []
  S := ⟨[[none]], [], [], [], []⟩
  bm := false
  pat := fun a b => match a, b with
    | [(AV.v (.int .u8 a0)), (AV.v (.int .u8 a1)), (AV.v (.int .u8 a2))], [] => some (a0, a1, a2)
    | _, _ => none
  args := fun x => [(AV.v (.int .u8 x.1)), (AV.v (.int .u8 x.2.1)), (AV.v (.int .u8 x.2.2))]
  bs := fun x => []
  ret := fun y => ⟨(AV.v (.bool y)), [], none, [], [], []⟩
  t := fun x α k => (match F4_d6 N ([[(AV.v (.int .i64 0))]], x.2.1, x.2.2, (i64 (1 + ((IntKind.i64.wrap x.1).tmod 60))), 1) with | some y5 => (match F13_d N y5.1 with | some y6 => (match (y6 != (i64 ((i64 ((i64 (y5.2.2.2.tdiv 4)) + (i64 ((y5.2.2.2.tmod 4).tdiv 2)))) + (y5.2.2.2.tmod 2)))) with | true => (k false) | false => (if y5.2.2.2 = 0 then none else (if y5.1.length * 8 ≤ maxBytes then (match F4_d22 N (y5.2.1, y5.2.2.2, y6, ((IntKind.i64.wrap y5.2.2.1).tmod y5.2.2.2), (y5.1.length), (i64 (((IntKind.i64.wrap y5.2.2.1).tmod y5.2.2.2) + 1)), ((y5.1.flatten).map dat0)) with | some y13 => (if y13.2.2.2.1 * 1 ≤ y13.2.2.2.2.length then (match F13_d N (chunks (y13.2.2.2.2.take (y13.2.2.2.1 * 1)) 1 y13.2.2.2.1) with | some y14 => (match ((i64 (y13.2.2.1 + 1)) == y13.1) with | true => (match (y14 == y13.2.1) with | true => (match F9_d N () with | some y15 => (k y15) | none => none) | false => (k false)) | false => (match F14_d N (chunks (y13.2.2.2.2.take (y13.2.2.2.1 * 1)) 1 y13.2.2.2.1) with | some y16 => (match F16_d N (y16.1, y13.1) with | some y17 => (match (decide (y14 > (i64 (y13.1.tdiv 4)))) with | true => (match (decide (y14 ≤ (i64 (y13.2.1 + 3)))) with | true => (match (y16.2 == 0) with | true => (match (y17.2 == 0) with | true => (match F17_d N (y17.1, (chunks (y13.2.2.2.2.take (y13.2.2.2.1 * 1)) 1 y13.2.2.2.1)) with | some y18 => (match y18 with | true => (match F9_d N () with | some y19 => (k y19) | none => none) | false => (k false)) | none => none) | false => (k false)) | false => (k false)) | false => (k false)) | false => (k false)) | none => none) | none => none)) | none => none) else none) | none => none) else none))) | none => none) | none => none)
noncomputable abbrev F4_d (N : Nat) (x : Int × Int × Int) : Option (Bool) := (F4_s N).d x
theorem F4_par22 (N : Nat) : Par (F4_l22 N).b := by
  intro x α β kn ke kn' ke' r r' h h1 h2
  revert h
  dsimp only [F4_l22]
  (repeat' (first | (with_reducible refine par_ite ?_ ?_) | (with_reducible refine par_both ?_ ?_) | split)) <;> intro h <;> first | exact h1 _ h | exact h2 _ h | (cases h; done)
theorem F4_body22 (N : Nat) (x : (F4_l22 N).X) (α : Type) (kn : AS → Option α) (ke : Out → Option α) : around (tabB Try.prog [59]) (F4_g N) F4_an (lam N [(6, F4_l6 N), (22, F4_l22 N)]) 22 (bodyOf (nthLoop 22 (Try.f4.body.getD .skip))) ((F4_l22 N).st x) kn ke = (F4_l22 N).b x α (fun x' => kn ((F4_l22 N).st x')) (fun y => (F4_l22 N).sp y α ke) := by kernel_rfl
theorem F4_pat22 (N : Nat) (s : AS) (x : (F4_l22 N).X) (hc : s = canon (F4_an 22).1 s) (h : (F4_l22 N).p s = some x) : s = (F4_l22 N).st x := by
  dsimp only [F4_l22] at h
  split at h
  · cases h
    exact canon_mk hc ‹_› ‹_› rfl rfl rfl ⟨‹_›, ‹_›, ‹_›, ‹_›, ‹_›, ‹_›, trivial⟩ ⟨‹_›, trivial⟩
  · cases h
theorem F4_loop22 (N : Nat) : ∀ s o, s = canon (F4_an 22).1 s → (lam N [(6, F4_l6 N), (22, F4_l22 N)]).v 22 s = some o → LoopSem Try.prog (nthLoop 22 (Try.f4.body.getD .skip)) s o :=
  loop_ok (tabB_ok Try.prog [59]) (gam_ok _) mixed F4_an N [(6, F4_l6 N), (22, F4_l22 N)] 22 (bodyOf (nthLoop 22 (Try.f4.body.getD .skip))) (nthLoop 22 (Try.f4.body.getD .skip)) (by kernel_rfl) (by
    have e : actOf F4_an (bodyOf (nthLoop 22 (Try.f4.body.getD .skip))) (22 + 1) = [] := by kernel_rfl
    rw [e]
    intro p hp
    cases hp) (F4_l22 N) rfl (fun s x hc h => F4_pat22 N s x hc h) (fun x => rfl) (fun x α kn ke => (F4_body22 N x α kn ke).trans (congrArg ((F4_l22 N).b x α _) (funext fun y => (F4_l22 N).spe y α ke))) (F4_par22 N)
theorem F4_par6 (N : Nat) : Par (F4_l6 N).b := by
  intro x α β kn ke kn' ke' r r' h h1 h2
  revert h
  dsimp only [F4_l6]
  (repeat' (first | (with_reducible refine par_ite ?_ ?_) | (with_reducible refine par_both ?_ ?_) | split)) <;> intro h <;> first | exact h1 _ h | exact h2 _ h | (cases h; done)
theorem F4_body6 (N : Nat) (x : (F4_l6 N).X) (α : Type) (kn : AS → Option α) (ke : Out → Option α) : around (tabB Try.prog [59]) (F4_g N) F4_an (lam N [(6, F4_l6 N), (22, F4_l22 N)]) 6 (bodyOf (nthLoop 6 (Try.f4.body.getD .skip))) ((F4_l6 N).st x) kn ke = (F4_l6 N).b x α (fun x' => kn ((F4_l6 N).st x')) (fun y => (F4_l6 N).sp y α ke) := by kernel_rfl
theorem F4_pat6 (N : Nat) (s : AS) (x : (F4_l6 N).X) (hc : s = canon (F4_an 6).1 s) (h : (F4_l6 N).p s = some x) : s = (F4_l6 N).st x := by
  dsimp only [F4_l6] at h
  split at h
  · cases h
    exact canon_mk hc ‹_› ‹_› rfl rfl rfl ⟨‹_›, ‹_›, ‹_›, ‹_›, ‹_›, trivial⟩ trivial
  · cases h
theorem F4_loop6 (N : Nat) : ∀ s o, s = canon (F4_an 6).1 s → (lam N [(6, F4_l6 N), (22, F4_l22 N)]).v 6 s = some o → LoopSem Try.prog (nthLoop 6 (Try.f4.body.getD .skip)) s o :=
  loop_ok (tabB_ok Try.prog [59]) (gam_ok _) mixed F4_an N [(6, F4_l6 N), (22, F4_l22 N)] 6 (bodyOf (nthLoop 6 (Try.f4.body.getD .skip))) (nthLoop 6 (Try.f4.body.getD .skip)) (by kernel_rfl) (by
    have e : actOf F4_an (bodyOf (nthLoop 6 (Try.f4.body.getD .skip))) (6 + 1) = [] := by kernel_rfl
    rw [e]
    intro p hp
    cases hp) (F4_l6 N) rfl (fun s x hc h => F4_pat6 N s x hc h) (fun x => rfl) (fun x α kn ke => (F4_body6 N x α kn ke).trans (congrArg ((F4_l6 N).b x α _) (funext fun y => (F4_l6 N).spe y α ke))) (F4_par6 N)
theorem F4_parF (N : Nat) : ParF (F4_s N).t := by
  intro x α β k k' r r' h h1
  revert h
  dsimp only [F4_s]
  (repeat' (first | (with_reducible refine par_ite ?_ ?_) | (with_reducible refine par_both ?_ ?_) | split)) <;> intro h <;> first | exact h1 _ h | (cases h; done)
theorem F4_text (N : Nat) (x : (F4_s N).X) : acall (tabB Try.prog [59]) (F4_g N) F4_an (lam N [(6, F4_l6 N), (22, F4_l22 N)]) Try.f4 (F4_s N).S ((F4_s N).args x) ((F4_s N).bs x) = (F4_s N).t x Ret (fun y => some ((F4_s N).ret y)) := by kernel_rfl
theorem F4_pat (N : Nat) (a : List AV) (b : List (List AV)) (x : (F4_s N).X) (h : (F4_s N).pat a b = some x) : a = (F4_s N).args x ∧ b = (F4_s N).bs x := by
  dsimp only [F4_s] at h
  split at h
  · cases h; exact ⟨rfl, rfl⟩
  · cases h
noncomputable def F4_e (N : Nat) : Ent Try.prog := entOf (tabB_ok Try.prog [59]) (gam_ok _) mixed 4 Try.f4 Try.func4 rfl F4_an (lam N [(6, F4_l6 N), (22, F4_l22 N)]) (by
    have e : actOf F4_an (Try.f4.body.getD .skip) 0 = [(6, nthLoop 6 (Try.f4.body.getD .skip)), (22, nthLoop 22 (Try.f4.body.getD .skip))] := by kernel_rfl
    rw [e]
    intro p hp
    rcases List.mem_cons.1 hp with rfl | hp
    · exact F4_loop6 N
    rcases List.mem_cons.1 hp with rfl | hp
    · exact F4_loop22 N
    cases hp) (F4_s N) (fun _ => ⟨rfl, rfl⟩) (F4_text N) (F4_pat N) (F4_parF N)
end Go.Proofs.Yteplhedodcaljaa
