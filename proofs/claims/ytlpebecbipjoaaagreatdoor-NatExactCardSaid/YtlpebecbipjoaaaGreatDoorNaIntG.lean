/- Natural numbers: Int as a function without memory, by its walk. -/
import Derived.Test.YtlpebecbipjoaaaGreatDoorNaInt
namespace Go.Proofs.YtlpebecbipjoaaaGreatDoor
open Go.RowKit
set_option linter.unusedVariables false
set_option linter.unusedSimpArgs false
set_option linter.unnecessarySimpa false
/-- A contract with a result that reads alike in every memory, as a call without memory. -/
theorem CallOk.plainT {P : Program} {f : FuncId} {args : List AV} {v : Value} {a : AV} (hv : ∀ M ρ σ, Rd M ρ σ v a) (hf : ∃ fn, P.funcs[f]? = some fn ∧ (fn.name == "runtime.NumGoroutine") = false ∧ fn.body.isNone = false)
    (h : ∀ (M : Mem) (w : World) (cargs : Array Value) (σ : Sig), GlOk M w [] (InT σ []) → (∀ g o x, M g o = some x → w.cell? ⟨g, o, none⟩ = some x) → cargs.size = args.length → (∀ i (h : i < cargs.size) (h' : i < args.length), Rd M (gsR []) σ cargs[i] args[i]) → Calls P f cargs w fun e w' => e = .returned v ∧ Below w.heap.size w w') :
    CallOk P f args [] ⟨a, [], none, [], [], []⟩ := by
  refine ⟨hf, fun M w cargs gs σ hgl mem hlt hn hl hsz hr hbx hda hT => ?_⟩
  obtain rfl : gs = [] := List.length_eq_zero_iff.1 hl
  refine (h M w cargs σ hgl mem hsz hr).mono fun e w' ⟨he, hb⟩ => ⟨v, M, σ, [], he, ?_⟩
  have same : ∀ g n, Row w g n → Row w' g n := fun g n q => q.of_heap (hb.block g q.lt)
  exact {
    sub := fun _ _ _ q => q
    mem := fun g o x q => by
      have q1 := mem g o x q
      have hg : g < w.heap.size := cell_lt q1
      rw [cell_of_heap (hb.block g hg)]
      exact q1
    same := fun _ _ _ _ => rfl
    frm := ⟨hb.os, hb.tape, hb.output, hb.size, fun k hk _ _ => hb.block k hk⟩
    olen := rfl
    outs := fun k h => by cases h
    data := fun k h => by cases h
    newn := fun _ => rfl
    new := fun cs h => by cases h
    val := hv _ _ _
    tok := fun t h => by cases h
    cap := fun t sp q => same _ _ (hT.cap t sp q)
    inj := fun t h => by cases h
    rows := same
    capin := fun k h => by cases h }
/-- A list of ints. -/
def intsOf : List (List AV) → Option (List Int)
  | [] => some []
  | [AV.v (.int .i64 s)] :: r => (match intsOf r with | some l => some (s :: l) | none => none)
  | _ => none
theorem intsOf_spec : ∀ {xs : List (List AV)} {l : List Int}, intsOf xs = some l → xs = rowsI l
  | [], l, h => by cases h; rfl
  | x :: r, l, h => by
    unfold intsOf at h
    split at h
    · rename_i heq; cases heq
    · rename_i s r' heq
      cases heq
      split at h
      · rename_i l' hl
        cases h
        rw [intsOf_spec hl]; rfl
      · cases h
    · cases h
theorem intsOf_rows (l : List Int) : intsOf (rowsI l) = some l := by
  induction l with
  | nil => rfl
  | cons s r ih =>
    show (match intsOf (rowsI r) with | some l => some (s :: l) | none => none) = _
    rw [ih]
/-! ### seismonet/nat.Int (function 26) -/
noncomputable def F21_s (N : Nat) : FSpec where
  X := List (List AV)
  Y := Int × Int
  ash := [[some 1]]
  bsh := []
  S := ⟨[[none], [none]], [], [], [], []⟩
  bm := false
  pat := fun a b => match a, b with
    | [(AV.list 1 a0 none)], [] => some a0
    | _, _ => none
  args := fun x => [(AV.list 1 x none)]
  bs := fun x => []
  ret := fun y => ⟨(AV.tup [(AV.v (.int .i64 y.1)), (AV.v (.int .i64 y.2))]), [], none, [], [], []⟩
  t := fun x α k => match intsOf x with | some l => (if l.length ≤ 590 then k (intV l) else none) | none => none
noncomputable abbrev F21_d (N : Nat) (x : List (List AV)) : Option (Int × Int) := (F21_s N).d x
theorem F21_parF (N : Nat) : ParF (F21_s N).t := by
  intro x α β k k' r r' h h1
  revert h
  dsimp only [F21_s]
  (repeat' (first | (with_reducible refine par_ite ?_ ?_) | (with_reducible refine par_both ?_ ?_) | split)) <;> intro h <;> first | exact h1 _ h | (cases h; done)
theorem F21_pat (N : Nat) (a : List AV) (b : List (List AV)) (x : (F21_s N).X) (h : (F21_s N).pat a b = some x) : a = (F21_s N).args x ∧ b = (F21_s N).bs x := by
  dsimp only [F21_s] at h
  split at h
  · cases h; exact ⟨rfl, rfl⟩
  · cases h
theorem int_ok (L : List Int) (p : Option Addr) (n c : Nat) (hn : n ≤ 590) (hs : Shp p n c) (w : World) (hgl : GlOk (memOf w) w [] (InT sig0 [])) (hr : ILRow w p n L) : Calls Tryz.prog 21 #[.slice p n c] w fun en w' => en = .returned (.tuple #[.int .i64 (intV L).1, .int .i64 (intV L).2]) ∧ Below w.heap.size w w' := by
  unfold intV
  by_cases hv : VN L
  · by_cases hb : vv L > 4611686018427387904
    · rw [if_pos hv, if_pos hb]
      exact int_big L p n c hn hs w hgl hr hv hb
    · rw [if_pos hv, if_neg hb]
      exact int_fit L p n c hn hs w hgl hr hv (by omega)
  · rw [if_neg hv]
    exact int_bad L p n c hn hs w hgl hr hv
noncomputable def F21_e (N : Nat) : Ent Tryz.prog where
  f := 21
  F := F21_s N
  ok := fun (x : List (List AV)) y h => by
    have h : (match intsOf x with | some l => (if l.length ≤ 590 then some (intV l) else none) | none => none) = some y := h
    split at h
    · rename_i l hl
      split at h
      · rename_i hx
        cases h
        have hxs := intsOf_spec hl
        refine CallOk.plainT (v := .tuple #[.int .i64 (intV l).1, .int .i64 (intV l).2]) (fun M ρ σ => .tup rfl (fun i h h' => ?_)) ⟨Tryz.f21, Tryz.func21, rfl, rfl⟩ fun M w cargs σ hgl mem hsz hr => ?_
        · have : i < 2 := h
          rcases (show i = 0 ∨ i = 1 by omega) with rfl | rfl
          · exact .v
          · exact .v
        · have h1 : cargs.size = 1 := hsz
          have h2 : Rd M (gsR []) σ (cargs[0]'(by omega)) (.list 1 x none) := hr 0 (by omega) (by show 0 < 1; omega)
          rw [hxs] at h2
          obtain ⟨p, n, c, e1, e2, e3⟩ := rd_row mem h2
          have e : cargs = #[.slice p n c] := by
            apply Array.ext
            · exact h1
            · intro i hi hi'
              have hi0 : i = 0 := by simp at hi'; exact hi'
              subst hi0
              exact e1
          rw [e]
          exact int_ok l p n c (by have := e2.1; omega) e3 w (hgl.all mem) e2
      · cases h
    · cases h
  hp := F21_pat N
  hsl := fun y => rfl
theorem intR {L : List Int} (h : L.length ≤ 590) : F21_d 600 (rowsI L) = some (intV L) := by
  show (match intsOf (rowsI L) with | some l => (if l.length ≤ 590 then some (intV l) else none) | none => none) = _
  rw [intsOf_rows]
  exact if_pos h
end Go.Proofs.YtlpebecbipjoaaaGreatDoor
