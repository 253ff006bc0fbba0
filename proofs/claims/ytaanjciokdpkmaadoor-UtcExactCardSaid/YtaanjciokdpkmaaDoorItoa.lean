/- strconv.Itoa as a function without memory: by the shelf's contract. -/
import Derived.Test.YtaanjciokdpkmaaDoorSymY
import Derived.Test.YtaanjciokdpkmaaDoorItoaShelf
namespace Go.Proofs.YtaanjciokdpkmaaDoor
open Go.RowKit
set_option linter.unusedVariables false
set_option linter.unusedSimpArgs false
set_option linter.unnecessarySimpa false
/-- A contract with a plain result, as a call without memory. -/
theorem CallOk.plain {P : Program} {f : FuncId} {args : List AV} {v : Value} (hf : ∃ fn, P.funcs[f]? = some fn ∧ (fn.name == "runtime.NumGoroutine") = false ∧ fn.body.isNone = false)
    (h : ∀ (M : Mem) (w : World) (cargs : Array Value) (σ : Sig), GlOk M w [] (InT σ []) → cargs.size = args.length → (∀ i (h : i < cargs.size) (h' : i < args.length), Rd M (gsR []) σ cargs[i] args[i]) → Calls P f cargs w fun e w' => e = .returned v ∧ Below w.heap.size w w') :
    CallOk P f args [] ⟨.v v, [], none, [], [], []⟩ := by
  refine ⟨hf, fun M w cargs gs σ hgl mem hlt hn hl hsz hr hbx hda hT => ?_⟩
  obtain rfl : gs = [] := List.length_eq_zero_iff.1 hl
  refine (h M w cargs σ hgl hsz hr).mono fun e w' ⟨he, hb⟩ => ⟨v, M, σ, [], he, ?_⟩
  have same : ∀ g n, Row w g n → Row w' g n := fun g n q => q.of_heap (hb.block g q.lt)
  exact {
    sub := fun _ _ _ q => q
    mem := fun g o x q => by
      have q1 := mem g o x q
      have hg : g < w.heap.size := by
        rcases Nat.lt_or_ge g w.heap.size with h1 | h1
        · exact h1
        · have hn : w.heap[g]? = none := Array.getElem?_eq_none h1
          simp [World.cell?, World.cells?, hn] at q1
      rw [cell_of_heap (hb.block g hg)]
      exact q1
    same := fun _ _ _ _ => rfl
    frm := ⟨hb.os, hb.tape, hb.output, hb.size, fun k hk _ _ => hb.block k hk⟩
    olen := rfl
    outs := fun k h => by cases h
    data := fun k h => by cases h
    newn := fun _ => rfl
    new := fun cs h => by cases h
    val := .v
    tok := fun t h => by cases h
    cap := fun t sp q => same _ _ (hT.cap t sp q)
    inj := fun t h => by cases h
    rows := same
    capin := fun k h => by cases h }
theorem tab_is {M : Mem} {w : World} {gs : List (Option Nat)} {T : Nat → Prop} (h : GlOk M w gs T) : Lib.TabIs Tryd.prog w "internal/strconv.uint64pow10" .u64 Lib.pow10Tab := by
  obtain ⟨-, ⟨t, z, q⟩, -, -⟩ := h 0 _ rfl
  have hn : Tryd.prog.globalNamed "internal/strconv.uint64pow10" = some 0 := by kernel_rfl
  unfold Lib.TabIs World.var?
  rw [hn]
  show (match w.heap[0]? with | some (.cells cs _ _) => some cs | _ => none) = _
  rw [q]
  show some _ = some _
  rw [show tab10 = Lib.pow10Tab by decide +kernel]
theorem grow_below (w : World) (k : Nat) (os : Array Obj) : Below w.heap.size w (Go.Sort.grow (w.drewN k) os) := by
  refine ⟨rfl, rfl, rfl, ?_, fun i hi => ?_⟩
  · show w.heap.size ≤ (w.heap ++ os).size
    simp
  · show (w.heap ++ os)[i]? = _
    rw [Array.getElem?_append, if_pos hi]
/-! ### strconv.Itoa (function 45) -/
noncomputable def F45_s (N : Nat) : FSpec where
  X := Int
  Y := ByteArray
  ash := [[none]]
  bsh := []
  S := ⟨[[none]], [], [], [], []⟩
  bm := false
  pat := fun a b => match a, b with
    | [(AV.v (.int .i64 a0))], [] => some a0
    | _, _ => none
  args := fun x => [(AV.v (.int .i64 x))]
  bs := fun x => []
  ret := fun y => ⟨(AV.v (.string y)), [], none, [], [], []⟩
  t := fun x α k => if -9223372036854775808 ≤ x ∧ x ≤ 9223372036854775807 then k ⟨(Lib.itoa x).toArray⟩ else none
noncomputable abbrev F45_d (N : Nat) (x : Int) : Option ByteArray := (F45_s N).d x
theorem F45_parF (N : Nat) : ParF (F45_s N).t := by
  intro x α β k k' r r' h h1
  revert h
  dsimp only [F45_s]
  (repeat' (first | (with_reducible refine par_ite ?_ ?_) | (with_reducible refine par_both ?_ ?_) | split)) <;> intro h <;> first | exact h1 _ h | (cases h; done)
theorem F45_pat (N : Nat) (a : List AV) (b : List (List AV)) (x : (F45_s N).X) (h : (F45_s N).pat a b = some x) : a = (F45_s N).args x ∧ b = (F45_s N).bs x := by
  dsimp only [F45_s] at h
  split at h
  · cases h; exact ⟨rfl, rfl⟩
  · cases h
noncomputable def F45_e (N : Nat) : Ent Tryd.prog where
  f := 45
  F := F45_s N
  ok := fun (x : Int) y h => by
    have h : (if -9223372036854775808 ≤ (x : Int) ∧ (x : Int) ≤ 9223372036854775807 then some (⟨(Lib.itoa x).toArray⟩ : ByteArray) else none) = some y := h
    split at h
    · rename_i hx
      cases h
      refine CallOk.plain ⟨Tryd.f45, Tryd.func45, rfl, rfl⟩ fun M w cargs σ hgl hsz hr => ?_
      have e : cargs = #[.int .i64 x] := by
        have h1 : cargs.size = 1 := hsz
        have h2 := (hr 0 (by omega) (by show 0 < 1; omega)).v_inv
        apply Array.ext
        · exact h1
        · intro i hi hi'
          have hi0 : i = 0 := by simp at hi'; exact hi'
          subst hi0
          exact h2
      rw [e]
      refine (Tryd.strconv_Itoa x hx.1 hx.2 w (tab_is hgl)).mono fun e w' ⟨he, k, os, hw⟩ => ⟨he, hw ▸ grow_below w k os⟩
    · cases h
  hp := F45_pat N
  hsl := fun y => rfl
end Go.Proofs.YtaanjciokdpkmaaDoor
