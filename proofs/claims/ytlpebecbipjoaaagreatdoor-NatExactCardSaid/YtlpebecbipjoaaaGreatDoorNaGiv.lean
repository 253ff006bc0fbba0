/- Functions of Go's library as functions without memory: by the shelf's contracts. (written by gen_nagiv.py) -/
import Derived.Test.YtlpebecbipjoaaaGreatDoorSymY
import Derived.Test.YtlpebecbipjoaaaGreatDoorNaShelf
namespace Go.Proofs.YtlpebecbipjoaaaGreatDoor
open Go.RowKit
set_option linter.unusedVariables false
set_option linter.unusedSimpArgs false
set_option linter.unnecessarySimpa false
/-- A contract with a plain result, as a call without memory. -/
theorem CallOk.plain {P : Program} {f : FuncId} {args : List AV} {v : Value} (hf : ∃ fn, P.funcs[f]? = some fn ∧ (fn.name == "runtime.NumGoroutine") = false ∧ fn.body.isNone = false)
    (h : ∀ (M : Mem) (w : World) (cargs : Array Value) (σ : Sig), GlOk M w [] (InT σ []) → (∀ g o x, M g o = some x → w.cell? ⟨g, o, none⟩ = some x) → cargs.size = args.length → (∀ i (h : i < cargs.size) (h' : i < args.length), Rd M (gsR []) σ cargs[i] args[i]) → Calls P f cargs w fun e w' => e = .returned v ∧ Below w.heap.size w w') :
    CallOk P f args [] ⟨.v v, [], none, [], [], []⟩ := by
  refine ⟨hf, fun M w cargs gs σ hgl mem hlt hn hl hsz hr hbx hda hT => ?_⟩
  obtain rfl : gs = [] := List.length_eq_zero_iff.1 hl
  refine (h M w cargs σ hgl mem hsz hr).mono fun e w' ⟨he, hb⟩ => ⟨v, M, σ, [], he, ?_⟩
  have same : ∀ g n, Row w g n → Row w' g n := fun g n q => q.of_heap (hb.block g q.lt)
  exact {
    sub := fun _ _ _ q => q
    mem := fun g o x q => by
      have q1 := mem g o x q
      have hg : g < w.heap.size := by
        rcases Nat.lt_or_ge g w.heap.size with h1 | h1
        · exact h1
        · have hn : w.heap[g]? = none := Array.getElem?_eq_none h1
          simp [World.cell?, World.cells?, hn] at q1
      rw [cell_of_heap (hb.block g hg)]
      exact q1
    same := fun _ _ _ _ => rfl
    frm := ⟨hb.os, hb.tape, hb.output, hb.size, fun k hk _ _ => hb.block k hk⟩
    olen := rfl
    outs := fun k h => by cases h
    data := fun k h => by cases h
    newn := fun _ => rfl
    new := fun cs h => by cases h
    val := .v
    tok := fun t h => by cases h
    cap := fun t sp q => same _ _ (hT.cap t sp q)
    inj := fun t h => by cases h
    rows := same
    capin := fun k h => by cases h }
theorem tab_is {M : Mem} {w : World} {gs : List (Option Nat)} {T : Nat → Prop} (h : GlOk M w gs T) : Lib.TabIs Tryz.prog w "internal/strconv.uint64pow10" .u64 Lib.pow10Tab := by
  obtain ⟨-, ⟨t, z, q⟩, -, -⟩ := h 0 _ rfl
  have hn : Tryz.prog.globalNamed "internal/strconv.uint64pow10" = some 0 := by kernel_rfl
  unfold Lib.TabIs World.var?
  rw [hn]
  show (match w.heap[0]? with | some (.cells cs _ _) => some cs | _ => none) = _
  rw [q]
  show some _ = some _
  rw [show tab10 = Lib.pow10Tab by decide +kernel]
theorem grow_below (w : World) (k : Nat) (os : Array Obj) : Below w.heap.size w (Go.Sort.grow (w.drewN k) os) := by
  refine ⟨rfl, rfl, rfl, ?_, fun i hi => ?_⟩
  · show w.heap.size ≤ (w.heap ++ os).size
    simp
  · show (w.heap ++ os)[i]? = _
    rw [Array.getElem?_append, if_pos hi]
/-! ### strconv.Itoa (function 52) -/
noncomputable def F52_s (N : Nat) : FSpec where
  X := Int
  Y := ByteArray
  ash := [[none]]
  bsh := []
  S := ⟨[[none]], [], [], [], []⟩
  bm := false
  pat := fun a b => match a, b with
    | [(AV.v (.int .i64 a0))], [] => some a0
    | _, _ => none
  args := fun x => [(AV.v (.int .i64 x))]
  bs := fun x => []
  ret := fun y => ⟨(AV.v (.string y)), [], none, [], [], []⟩
  t := fun x α k => if -9223372036854775808 ≤ x ∧ x ≤ 9223372036854775807 then k ⟨(Lib.itoa x).toArray⟩ else none
noncomputable abbrev F52_d (N : Nat) (x : Int) : Option ByteArray := (F52_s N).d x
theorem F52_parF (N : Nat) : ParF (F52_s N).t := by
  intro x α β k k' r r' h h1
  revert h
  dsimp only [F52_s]
  (repeat' (first | (with_reducible refine par_ite ?_ ?_) | (with_reducible refine par_both ?_ ?_) | split)) <;> intro h <;> first | exact h1 _ h | (cases h; done)
theorem F52_pat (N : Nat) (a : List AV) (b : List (List AV)) (x : (F52_s N).X) (h : (F52_s N).pat a b = some x) : a = (F52_s N).args x ∧ b = (F52_s N).bs x := by
  dsimp only [F52_s] at h
  split at h
  · cases h; exact ⟨rfl, rfl⟩
  · cases h
noncomputable def F52_e (N : Nat) : Ent Tryz.prog where
  f := 52
  F := F52_s N
  ok := fun (x : Int) y h => by
    have h : (if -9223372036854775808 ≤ (x : Int) ∧ (x : Int) ≤ 9223372036854775807 then some (⟨(Lib.itoa x).toArray⟩ : ByteArray) else none) = some y := h
    split at h
    · rename_i hx
      cases h
      refine CallOk.plain ⟨Tryz.f52, Tryz.func52, rfl, rfl⟩ fun M w cargs σ hgl mem hsz hr => ?_
      have e : cargs = #[.int .i64 x] := by
        have h1 : cargs.size = 1 := hsz
        have h2 := (hr 0 (by omega) (by show 0 < 1; omega)).v_inv
        apply Array.ext
        · exact h1
        · intro i hi hi'
          have hi0 : i = 0 := by simp at hi'; exact hi'
          subst hi0
          exact h2
      rw [e]
      refine (Tryz.strconv_Itoa x hx.1 hx.2 w (tab_is hgl)).mono fun e w' ⟨he, k, os, hw⟩ => ⟨he, hw ▸ grow_below w k os⟩
    · cases h
  hp := F52_pat N
  hsl := fun y => rfl
/-! ### strings.Repeat (function 53) -/
noncomputable def F53_s (N : Nat) : FSpec where
  X := ByteArray × Int
  Y := ByteArray
  ash := [[none], [none]]
  bsh := []
  S := ⟨[[none]], [], [], [], []⟩
  bm := false
  pat := fun a b => match a, b with
    | [(AV.v (.string a0)), (AV.v (.int .i64 a1))], [] => some (a0, a1)
    | _, _ => none
  args := fun x => [(AV.v (.string x.1)), (AV.v (.int .i64 x.2))]
  bs := fun x => []
  ret := fun y => ⟨(AV.v (.string y)), [], none, [], [], []⟩
  t := fun x α k => if 0 ≤ x.2 ∧ x.2 ≤ 9223372036854775807 ∧ x.1.size * x.2.toNat ≤ 140737488355328 then k ⟨(Lib.repeatL x.1.data.toList x.2.toNat).toArray⟩ else none
noncomputable abbrev F53_d (N : Nat) (x : ByteArray × Int) : Option ByteArray := (F53_s N).d x
theorem F53_parF (N : Nat) : ParF (F53_s N).t := by
  intro x α β k k' r r' h h1
  revert h
  dsimp only [F53_s]
  (repeat' (first | (with_reducible refine par_ite ?_ ?_) | (with_reducible refine par_both ?_ ?_) | split)) <;> intro h <;> first | exact h1 _ h | (cases h; done)
theorem F53_pat (N : Nat) (a : List AV) (b : List (List AV)) (x : (F53_s N).X) (h : (F53_s N).pat a b = some x) : a = (F53_s N).args x ∧ b = (F53_s N).bs x := by
  dsimp only [F53_s] at h
  split at h
  · cases h; exact ⟨rfl, rfl⟩
  · cases h
noncomputable def F53_e (N : Nat) : Ent Tryz.prog where
  f := 53
  F := F53_s N
  ok := fun (x : ByteArray × Int) y h => by
    obtain ⟨s, c⟩ := x
    have h : (if 0 ≤ c ∧ c ≤ 9223372036854775807 ∧ s.size * c.toNat ≤ 140737488355328 then some (⟨(Lib.repeatL s.data.toList c.toNat).toArray⟩ : ByteArray) else none) = some y := h
    split at h
    · rename_i hx
      cases h
      refine CallOk.plain ⟨Tryz.f53, Tryz.func53, rfl, rfl⟩ fun M w cargs σ hgl mem hsz hr => ?_
      have e : cargs = #[.string s, .int .i64 c] := by
        have h1 : cargs.size = 2 := hsz
        have h2 := (hr 0 (by omega) (by show 0 < 2; omega)).v_inv
        have h3 := (hr 1 (by omega) (by show 1 < 2; omega)).v_inv
        apply Array.ext
        · exact h1
        · intro i hi hi'
          have hi2 : i < 2 := by simpa using hi'
          rcases (show i = 0 ∨ i = 1 by omega) with rfl | rfl
          · exact h2
          · exact h3
      rw [e]
      have ec : Value.int .i64 c = Value.int .i64 ((c.toNat : Nat) : Int) := by rw [Int.toNat_of_nonneg hx.1]
      rw [ec]
      exact Tryz.strings_Repeat s c.toNat w (by omega) hx.2.2
    · cases h
  hp := F53_pat N
  hsl := fun y => rfl
/-! ### strings.Trim (function 58) -/
noncomputable def F58_s (N : Nat) : FSpec where
  X := ByteArray × ByteArray
  Y := ByteArray
  ash := [[none], [none]]
  bsh := []
  S := ⟨[[none]], [], [], [], []⟩
  bm := false
  pat := fun a b => match a, b with
    | [(AV.v (.string a0)), (AV.v (.string a1))], [] => some (a0, a1)
    | _, _ => none
  args := fun x => [(AV.v (.string x.1)), (AV.v (.string x.2))]
  bs := fun x => []
  ret := fun y => ⟨(AV.v (.string y)), [], none, [], [], []⟩
  t := fun x α k => if x.1.size ≤ 9223372036854775807 ∧ x.2.size < 4294967281 ∧ x.2.data.toList.all (fun b => decide (b.toNat < 128)) = true then k ⟨(Lib.trimS x.1.data.toList x.2.data.toList).toArray⟩ else none
noncomputable abbrev F58_d (N : Nat) (x : ByteArray × ByteArray) : Option ByteArray := (F58_s N).d x
theorem F58_parF (N : Nat) : ParF (F58_s N).t := by
  intro x α β k k' r r' h h1
  revert h
  dsimp only [F58_s]
  (repeat' (first | (with_reducible refine par_ite ?_ ?_) | (with_reducible refine par_both ?_ ?_) | split)) <;> intro h <;> first | exact h1 _ h | (cases h; done)
theorem F58_pat (N : Nat) (a : List AV) (b : List (List AV)) (x : (F58_s N).X) (h : (F58_s N).pat a b = some x) : a = (F58_s N).args x ∧ b = (F58_s N).bs x := by
  dsimp only [F58_s] at h
  split at h
  · cases h; exact ⟨rfl, rfl⟩
  · cases h
noncomputable def F58_e (N : Nat) : Ent Tryz.prog where
  f := 58
  F := F58_s N
  ok := fun (x : ByteArray × ByteArray) y h => by
    obtain ⟨s, c⟩ := x
    have h : (if s.size ≤ 9223372036854775807 ∧ c.size < 4294967281 ∧ c.data.toList.all (fun b => decide (b.toNat < 128)) = true then some (⟨(Lib.trimS s.data.toList c.data.toList).toArray⟩ : ByteArray) else none) = some y := h
    split at h
    · rename_i hx
      cases h
      refine CallOk.plain ⟨Tryz.f58, Tryz.func58, rfl, rfl⟩ fun M w cargs σ hgl mem hsz hr => ?_
      have e : cargs = #[.string s, .string c] := by
        have h1 : cargs.size = 2 := hsz
        have h2 := (hr 0 (by omega) (by show 0 < 2; omega)).v_inv
        have h3 := (hr 1 (by omega) (by show 1 < 2; omega)).v_inv
        apply Array.ext
        · exact h1
        · intro i hi hi'
          have hi2 : i < 2 := by simpa using hi'
          rcases (show i = 0 ∨ i = 1 by omega) with rfl | rfl
          · exact h2
          · exact h3
      rw [e]
      exact Any.strings_Trim_laid Tryz.lays160 (by kernel_rfl) s c w hx.1 hx.2.1 (ascii_of_all hx.2.2)
    · cases h
  hp := F58_pat N
  hsl := fun y => rfl
/-- A list of strings. -/
def strsOf : List (List AV) → Option (List ByteArray)
  | [] => some []
  | [AV.v (.string s)] :: r => (match strsOf r with | some l => some (s :: l) | none => none)
  | _ => none
theorem strsOf_spec : ∀ {xs : List (List AV)} {l : List ByteArray}, strsOf xs = some l → xs = l.map fun s => [AV.v (.string s)]
  | [], l, h => by cases h; rfl
  | x :: r, l, h => by
    unfold strsOf at h
    split at h
    · rename_i heq; cases heq
    · rename_i s r' heq
      cases heq
      split at h
      · rename_i l' hl
        cases h
        rw [strsOf_spec hl]; rfl
      · cases h
    · cases h
theorem strsOf_map (l : List ByteArray) : strsOf (l.map fun s => [AV.v (.string s)]) = some l := by
  induction l with
  | nil => rfl
  | cons s r ih => simp only [List.map_cons, strsOf, ih]
/-! ### strings.Join (function 55) -/
noncomputable def F55_s (N : Nat) : FSpec where
  X := (List (List AV)) × ByteArray
  Y := ByteArray
  ash := [[some 1], [none]]
  bsh := []
  S := ⟨[[none]], [], [], [], []⟩
  bm := false
  pat := fun a b => match a, b with
    | [(AV.list 1 a0 none), (AV.v (.string a1))], [] => some (a0, a1)
    | _, _ => none
  args := fun x => [(AV.list 1 x.1 none), (AV.v (.string x.2))]
  bs := fun x => []
  ret := fun y => ⟨(AV.v (.string y)), [], none, [], [], []⟩
  t := fun x α k => match strsOf x.1 with | some l => (if l.length ≤ 140737488355328 ∧ (Lib.join (l.map (·.data.toList)) x.2.data.toList).length ≤ 140737488355328 then k ⟨(Lib.join (l.map (·.data.toList)) x.2.data.toList).toArray⟩ else none) | none => none
noncomputable abbrev F55_d (N : Nat) (x : (List (List AV)) × ByteArray) : Option ByteArray := (F55_s N).d x
theorem F55_parF (N : Nat) : ParF (F55_s N).t := by
  intro x α β k k' r r' h h1
  revert h
  dsimp only [F55_s]
  (repeat' (first | (with_reducible refine par_ite ?_ ?_) | (with_reducible refine par_both ?_ ?_) | split)) <;> intro h <;> first | exact h1 _ h | (cases h; done)
theorem F55_pat (N : Nat) (a : List AV) (b : List (List AV)) (x : (F55_s N).X) (h : (F55_s N).pat a b = some x) : a = (F55_s N).args x ∧ b = (F55_s N).bs x := by
  dsimp only [F55_s] at h
  split at h
  · cases h; exact ⟨rfl, rfl⟩
  · cases h
noncomputable def F55_e (N : Nat) : Ent Tryz.prog where
  f := 55
  F := F55_s N
  ok := fun (x : (List (List AV)) × ByteArray) y h => by
    obtain ⟨xs, c⟩ := x
    have h : (match strsOf xs with | some l => (if l.length ≤ 140737488355328 ∧ (Lib.join (l.map (·.data.toList)) c.data.toList).length ≤ 140737488355328 then some (⟨(Lib.join (l.map (·.data.toList)) c.data.toList).toArray⟩ : ByteArray) else none) | none => none) = some y := h
    split at h
    · rename_i l hl
      split at h
      · rename_i hx
        cases h
        have hxs := strsOf_spec hl
        refine CallOk.plain ⟨Tryz.f55, Tryz.func55, rfl, rfl⟩ fun M w cargs σ hgl mem hsz hr => ?_
        have h1 : cargs.size = 2 := hsz
        have h2 := hr 0 (by omega) (by show 0 < 2; omega)
        have h3 := (hr 1 (by omega) (by show 1 < 2; omega)).v_inv
        have e : cargs = #[cargs[0]'(by omega), .string c] := by
          apply Array.ext
          · exact h1
          · intro i hi hi'
            have hi2 : i < 2 := by simpa using hi'
            rcases (show i = 0 ∨ i = 1 by omega) with rfl | rfl
            · rfl
            · exact h3
        have h2' : Rd M (gsR []) σ (cargs[0]'(by omega)) (.list 1 xs none) := h2
        rw [e]
        generalize cargs[0]'(by omega) = c0 at h2' ⊢
        have none_ok : ∀ (a : Option Addr) (cap : Nat), l = [] → Calls Tryz.prog 55 #[.slice a 0 cap, .string c] w fun e w' => e = .returned (.string ⟨(Lib.join (l.map (·.data.toList)) c.data.toList).toArray⟩) ∧ Below w.heap.size w w' := fun a cap hl0 => by
          subst hl0
          exact (Tryz.strings_Join_none a cap c w).mono fun e w' ⟨he, hw⟩ => ⟨he, hw ▸ Below.refl _ _⟩
        have hlen : xs.length = l.length := by rw [hxs]; simp
        cases h2' with
        | nil => exact none_ok none 0 (List.length_eq_zero_iff.1 hlen.symm)
        | @list _ _ g off len cap _ _ _ cf q1 q2 q3 q4 q5 q6 q7 =>
          have hcell : ∀ (j : Nat) (x : ByteArray), l[j]? = some x → w.cell? ⟨g, off + j, none⟩ = some (.string x) := fun j x hj => by
            obtain ⟨hj1, hj2⟩ := List.getElem?_eq_some_iff.1 hj
            have hjx : j < xs.length := by omega
            have m1 := mem _ _ _ (q4 j 0 hjx (by omega))
            have hrow : xs[j] = [AV.v (.string x)] := by
              subst hxs
              simp [hj2]
            have m2 := q6 j 0 hjx (by rw [hrow]; simp)
            have m3 : Rd M rho0 sig0 (cf j 0) (AV.v (.string x)) := by
              have e2 : (xs[j])[0]'(by rw [hrow]; simp) = AV.v (.string x) := by simp [hrow]
              rw [e2] at m2
              exact m2
            rw [m3.v_inv] at m1
            rw [show off + j = off + j * 1 + 0 by omega]
            exact m1
          rcases Nat.eq_zero_or_pos l.length with h0 | h0
          · have : len = 0 := by omega
            subst this
            exact none_ok _ _ (List.length_eq_zero_iff.1 h0)
          · have hb : g < w.heap.size := cell_lt (hcell 0 _ (List.getElem?_eq_getElem h0))
            have el : len = l.length := by omega
            subst el
            exact Tryz.strings_Join g off cap l c w hcell hb hx.1 (by omega) hx.2
      · cases h
    · cases h
  hp := F55_pat N
  hsl := fun y => rfl
end Go.Proofs.YtlpebecbipjoaaaGreatDoor
