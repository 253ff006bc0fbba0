/- Functions of the library and of the program as functions without memory: by their contracts. (written by gen_pkgiv.py) -/
import Derived.Test.YtdmedeaknnldcaaGreatDoorPkT
import Derived.Test.YtdmedeaknnldcaaGreatDoorPkFmt
import Derived.Test.YtdmedeaknnldcaaGreatDoorPkSplit
import Derived.Test.YtdmedeaknnldcaaGreatDoorCrcWalkB
namespace Go.Proofs.YtdmedeaknnldcaaGreatDoor
open Go.RowKit Crc
set_option linter.unusedVariables false
set_option linter.unusedSimpArgs false
set_option linter.unnecessarySimpa false
/-- A contract with a plain result, as a call without memory. -/
theorem CallOk.plainT {P : Program} {f : FuncId} {args : List AV} {v : Value} {a : AV} (hv : ∀ M ρ σ, Rd M ρ σ v a) (hf : ∃ fn, P.funcs[f]? = some fn ∧ (fn.name == "runtime.NumGoroutine") = false ∧ fn.body.isNone = false)
    (h : ∀ (M : Mem) (w : World) (cargs : Array Value) (σ : Sig), GlOk M w [] (InT σ []) → (∀ g o x, M g o = some x → w.cell? ⟨g, o, none⟩ = some x) → cargs.size = args.length → (∀ i (h : i < cargs.size) (h' : i < args.length), Rd M (gsR []) σ cargs[i] args[i]) → Calls P f cargs w fun e w' => e = .returned v ∧ Below w.heap.size w w') :
    CallOk P f args [] ⟨a, [], none, [], [], []⟩ := by
  refine ⟨hf, fun M w cargs gs σ hgl mem hlt hn hl hsz hr hbx hda hT => ?_⟩
  obtain rfl : gs = [] := List.length_eq_zero_iff.1 hl
  refine (h M w cargs σ hgl mem hsz hr).mono fun e w' ⟨he, hb⟩ => ⟨v, M, σ, [], he, ?_⟩
  have same : ∀ g n, Row w g n → Row w' g n := fun g n q => q.of_heap (hb.block g q.lt)
  exact {
    sub := fun _ _ _ q => q
    mem := fun g o x q => by
      have q1 := mem g o x q
      have hg : g < w.heap.size := by
        rcases Nat.lt_or_ge g w.heap.size with h1 | h1
        · exact h1
        · have hn : w.heap[g]? = none := Array.getElem?_eq_none h1
          simp [World.cell?, World.cells?, hn] at q1
      rw [cell_of_heap (hb.block g hg)]
      exact q1
    same := fun _ _ _ _ => rfl
    frm := ⟨hb.os, hb.tape, hb.output, hb.size, fun k hk _ _ => hb.block k hk⟩
    olen := rfl
    outs := fun k h => by cases h
    data := fun k h => by cases h
    newn := fun _ => rfl
    new := fun cs h => by cases h
    val := hv _ _ _
    tok := fun t h => by cases h
    cap := fun t sp q => same _ _ (hT.cap t sp q)
    inj := fun t h => by cases h
    rows := same
    capin := fun k h => by cases h }
theorem args1 {cargs : Array Value} {v : Value} (h1 : cargs.size = 1) (h : cargs[0]'(by omega) = v) : cargs = #[v] := by
  apply Array.ext
  · exact h1
  · intro i hi hi'
    have hi0 : i = 0 := by simp at hi'; exact hi'
    subst hi0
    exact h
theorem args2 {cargs : Array Value} {v u : Value} (h1 : cargs.size = 2) (h : cargs[0]'(by omega) = v) (h' : cargs[1]'(by omega) = u) : cargs = #[v, u] := by
  apply Array.ext
  · exact h1
  · intro i hi hi'
    have hi2 : i < 2 := by simpa using hi'
    rcases (show i = 0 ∨ i = 1 by omega) with rfl | rfl
    · exact h
    · exact h'
theorem args4 {cargs : Array Value} {a b c d : Value} (h1 : cargs.size = 4) (ha : cargs[0]'(by omega) = a) (hb : cargs[1]'(by omega) = b) (hc : cargs[2]'(by omega) = c) (hd : cargs[3]'(by omega) = d) : cargs = #[a, b, c, d] := by
  apply Array.ext
  · exact h1
  · intro i hi hi'
    have hi2 : i < 4 := by simpa using hi'
    rcases (show i = 0 ∨ i = 1 ∨ i = 2 ∨ i = 3 by omega) with rfl | rfl | rfl | rfl
    · exact ha
    · exact hb
    · exact hc
    · exact hd
theorem rd_pair {M : Mem} {ρ : Rho} {σ : Sig} {a b : Value} : Rd M ρ σ (.tuple #[a, b]) (.tup [.v a, .v b]) := .tup rfl fun i h h' => by
  have : i < 2 := h
  rcases (show i = 0 ∨ i = 1 by omega) with rfl | rfl
  · exact .v
  · exact .v
theorem rd_agg4 {M : Mem} {ρ : Rho} {σ : Sig} {a b c d e : Value} (h : Rd M ρ σ e (.agg [.v a, .v b, .v c, .v d])) : e = .agg #[a, b, c, d] := by
  cases h with
  | @agg _ _ cs _ hl h1 hr =>
    have h4 : cs.size = 4 := hl
    have r0 := (hr 0 (by omega) (by simp)).v_inv
    have r1 := (hr 1 (by omega) (by simp)).v_inv
    have r2 := (hr 2 (by omega) (by simp)).v_inv
    have r3 := (hr 3 (by omega) (by simp)).v_inv
    rw [args4 h4 r0 r1 r2 r3]
theorem agg4_rd {M : Mem} {ρ : Rho} {σ : Sig} {a b c d : ByteArray} : Rd M ρ σ (.agg #[.string a, .string b, .string c, .string d]) (.agg [.v (.string a), .v (.string b), .v (.string c), .v (.string d)]) := by
  refine .agg rfl (fun i h => ?_) (fun i h h' => ?_)
  · have : i < 4 := h
    rcases (show i = 0 ∨ i = 1 ∨ i = 2 ∨ i = 3 by omega) with rfl | rfl | rfl | rfl <;> rfl
  · have : i < 4 := h
    rcases (show i = 0 ∨ i = 1 ∨ i = 2 ∨ i = 3 by omega) with rfl | rfl | rfl | rfl <;> exact .v
/-- A call whose result's reading determines it. -/
theorem CallOk.callsU {P : Program} {f : FuncId} {args : List AV} {a : AV} {v : Value} (h : CallOk P f args [] ⟨a, [], none, [], [], []⟩) (hu : ∀ M ρ σ c, Rd M ρ σ c a → c = v) (W : World) (cargs : Array Value) (hsz : cargs.size = args.length) (hr : ∀ i (h : i < cargs.size) (h' : i < args.length), Rd (memOf W) (gsR []) sig0 cargs[i] args[i]) (hgl : GlOk (memOf W) W [] (InT sig0 []) := by exact fun g cs hg => by cases hg) :
    Calls P f cargs W fun e w' => e = .returned v ∧ Below W.heap.size W w' := by
  refine (h.2 (memOf W) W cargs [] sig0 hgl (fun _ _ _ h => h) (fun k g h => by cases h) (fun i j g h => by cases h) rfl hsz hr (fun k h => by cases h) (fun k h => by cases h) ⟨(fun t h => by cases h), (fun t sp h => by cases h), (fun t h => by cases h)⟩).mono fun e w' ⟨c, M', σ', gn, he, left⟩ => ?_
  have hv := left.val
  refine ⟨by rw [he, hu _ _ _ _ hv], left.frm.os, left.frm.tape, left.frm.output, left.frm.size, fun k hk => left.frm.block k hk (fun h => by cases h) (fun ⟨t, h, _⟩ => by cases h)⟩
theorem new_cell (w : World) (cs : Array Value) (T : TypeId) (o : Nat) : (w.alloc (.cells cs T)).cell? ⟨w.heap.size, o, none⟩ = cs[o]? := by
  simp only [World.cell?, World.cells?, alloc_last]
  rfl
/-- A call that returns a new slice of strings. -/
theorem CallOk.texts {P : Program} {f : FuncId} {args : List AV} {L : List ByteArray} {T : TypeId} (hf : ∃ fn, P.funcs[f]? = some fn ∧ (fn.name == "runtime.NumGoroutine") = false ∧ fn.body.isNone = false)
    (h : ∀ (M : Mem) (w : World) (cargs : Array Value) (σ : Sig), (∀ g o x, M g o = some x → w.cell? ⟨g, o, none⟩ = some x) → cargs.size = args.length → (∀ i (h : i < cargs.size) (h' : i < args.length), Rd M (gsR []) σ cargs[i] args[i]) → Calls P f cargs w fun e w' => e = .returned (.slice (some ⟨w.heap.size, 0, none⟩) L.length L.length) ∧ w' = w.alloc (.cells (L.map Value.string).toArray T)) :
    CallOk P f args [] ⟨.list 1 (L.map fun s => [.v (.string s)]) none, [], none, [], [], []⟩ := by
  refine ⟨hf, fun M w cargs gs σ hgl mem hlt hn hl hsz hr hbx hda hT => ?_⟩
  obtain rfl : gs = [] := List.length_eq_zero_iff.1 hl
  refine (h M w cargs σ mem hsz hr).mono fun e w' ⟨he, hw⟩ => ?_
  have hb : Below w.heap.size w w' := hw ▸ below1 _
  have same : ∀ g n, Row w g n → Row w' g n := fun g n q => q.of_heap (hb.block g q.lt)
  have lt : ∀ g o v, M g o = some v → g < w.heap.size := fun g o v q => by
    have q1 := mem g o v q
    rcases Nat.lt_or_ge g w.heap.size with h1 | h1
    · exact h1
    · have hn : w.heap[g]? = none := Array.getElem?_eq_none h1
      simp [World.cell?, World.cells?, hn] at q1
  let M' : Mem := fun g o => if g = w.heap.size then (L.map Value.string)[o]? else M g o
  have new : ∀ o, M' w.heap.size o = (L.map Value.string)[o]? := fun o => if_pos rfl
  have old : ∀ g o, g ≠ w.heap.size → M' g o = M g o := fun g o q => if_neg q
  refine ⟨_, M', σ, [], he, ?_⟩
  exact {
    sub := fun g o v q => (old g o (Nat.ne_of_lt (lt g o v q))).trans q
    mem := fun g o x q => by
      by_cases hg : g = w.heap.size
      · subst hg
        rw [new] at q
        rw [hw, new_cell, List.getElem?_toArray]
        exact q
      · rw [old _ _ hg] at q
        rw [cell_of_heap (hb.block g (lt g o x q))]
        exact mem g o x q
    same := fun g o q _ => old g o (Nat.ne_of_lt q)
    frm := ⟨hb.os, hb.tape, hb.output, hb.size, fun k hk _ _ => hb.block k hk⟩
    olen := rfl
    outs := fun k h => by cases h
    data := fun k h => by cases h
    newn := fun _ => rfl
    new := fun cs h => by cases h
    val := by
      refine .list (fun i j => .string (L.getD i ⟨#[]⟩)) (by simp) (Nat.le_refl _) (fun i h => by simp) (fun i j hi hj => ?_) (fun i j => rfl) (fun i j hi hj => ?_) .none
      · have hj0 : j = 0 := by omega
        subst hj0
        have hi' : i < L.length := by simpa using hi
        rw [new]
        simp [List.getD_eq_getElem?_getD, hi']
      · have hj0 : j = 0 := by simp at hj; exact hj
        subst hj0
        have hi' : i < L.length := by simpa using hi
        simp [List.getD_eq_getElem?_getD, hi']
        exact .v
    tok := fun t h => by cases h
    cap := fun t sp q => same _ _ (hT.cap t sp q)
    inj := fun t h => by cases h
    rows := same
    capin := fun k h => by cases h }
/-! ### seismonet/crc.Append -/
noncomputable def F36_s (N : Nat) : FSpec where
  X := ByteArray
  Y := ByteArray
  ash := [[none]]
  bsh := []
  S := ⟨[[none]], [], [], [], []⟩
  bm := false
  pat := fun a b => match a, b with
    | [(AV.v (.string a0))], [] => some a0
    | _, _ => none
  args := fun x => [(AV.v (.string x))]
  bs := fun x => []
  ret := fun y => ⟨(AV.v (.string y)), [], none, [], [], []⟩
  t := fun x α k => if x.size + 4 ≤ maxLen then k (appended x) else none
noncomputable abbrev F36_d (N : Nat) (x : ByteArray) : Option (ByteArray) := (F36_s N).d x
theorem F36_parF (N : Nat) : ParF (F36_s N).t := by
  intro x α β k k' r r' h h1
  revert h
  dsimp only [F36_s]
  (repeat' (first | (with_reducible refine par_ite ?_ ?_) | (with_reducible refine par_both ?_ ?_) | split)) <;> intro h <;> first | exact h1 _ h | (cases h; done)
theorem F36_pat (N : Nat) (a : List AV) (b : List (List AV)) (x : (F36_s N).X) (h : (F36_s N).pat a b = some x) : a = (F36_s N).args x ∧ b = (F36_s N).bs x := by
  dsimp only [F36_s] at h
  split at h
  · cases h; exact ⟨rfl, rfl⟩
  · cases h
noncomputable def F36_e (N : Nat) : Ent Tryz.prog where
  f := 36
  F := F36_s N
  ok := fun (x : ByteArray) y h => by
    have h : (if x.size + 4 ≤ maxLen then some (appended x) else none) = some y := h
    split at h
    · rename_i hx
      cases h
      refine CallOk.plainT (v := .string (appended x)) (fun _ _ _ => .v) ⟨Tryz.f36, Tryz.func36, rfl, rfl⟩ fun M w cargs σ hgl mem hsz hr => ?_
      rw [args1 hsz ((hr 0 (by rw [hsz]; exact Nat.one_pos) (by show 0 < 1; omega)).v_inv)]
      exact crc_append x hx w
    · cases h
  hp := F36_pat N
  hsl := fun y => rfl
/-! ### seismonet/crc.Check -/
noncomputable def F45_s (N : Nat) : FSpec where
  X := ByteArray
  Y := Bool
  ash := [[none]]
  bsh := []
  S := ⟨[[none]], [], [], [], []⟩
  bm := false
  pat := fun a b => match a, b with
    | [(AV.v (.string a0))], [] => some a0
    | _, _ => none
  args := fun x => [(AV.v (.string x))]
  bs := fun x => []
  ret := fun y => ⟨(AV.v (.bool y)), [], none, [], [], []⟩
  t := fun x α k => if x.size ≤ maxLen then k (check x) else none
noncomputable abbrev F45_d (N : Nat) (x : ByteArray) : Option (Bool) := (F45_s N).d x
theorem F45_parF (N : Nat) : ParF (F45_s N).t := by
  intro x α β k k' r r' h h1
  revert h
  dsimp only [F45_s]
  (repeat' (first | (with_reducible refine par_ite ?_ ?_) | (with_reducible refine par_both ?_ ?_) | split)) <;> intro h <;> first | exact h1 _ h | (cases h; done)
theorem F45_pat (N : Nat) (a : List AV) (b : List (List AV)) (x : (F45_s N).X) (h : (F45_s N).pat a b = some x) : a = (F45_s N).args x ∧ b = (F45_s N).bs x := by
  dsimp only [F45_s] at h
  split at h
  · cases h; exact ⟨rfl, rfl⟩
  · cases h
noncomputable def F45_e (N : Nat) : Ent Tryz.prog where
  f := 45
  F := F45_s N
  ok := fun (x : ByteArray) y h => by
    have h : (if x.size ≤ maxLen then some (check x) else none) = some y := h
    split at h
    · rename_i hx
      cases h
      refine CallOk.plainT (v := .bool (check x)) (fun _ _ _ => .v) ⟨Tryz.f45, Tryz.func45, rfl, rfl⟩ fun M w cargs σ hgl mem hsz hr => ?_
      rw [args1 hsz ((hr 0 (by rw [hsz]; exact Nat.one_pos) (by show 0 < 1; omega)).v_inv)]
      exact crc_check x hx w
    · cases h
  hp := F45_pat N
  hsl := fun y => rfl
/-! ### strings.Split -/
noncomputable def F101_s (N : Nat) : FSpec where
  X := ByteArray × ByteArray
  Y := List (List AV)
  ash := [[none], [none]]
  bsh := []
  S := ⟨[[some 1]], [], [], [], []⟩
  bm := false
  pat := fun a b => match a, b with
    | [(AV.v (.string a0)), (AV.v (.string a1))], [] => some (a0, a1)
    | _, _ => none
  args := fun x => [(AV.v (.string x.1)), (AV.v (.string x.2))]
  bs := fun x => []
  ret := fun y => ⟨(AV.list 1 y none), [], none, [], [], []⟩
  t := fun x α k => if x.2 = dot ∧ x.1.size < 4294967281 then k ((Lib.splitB dot 0 (Lib.countB x.1 dot) x.1).map fun s => [AV.v (.string s)]) else none
noncomputable abbrev F101_d (N : Nat) (x : ByteArray × ByteArray) : Option (List (List AV)) := (F101_s N).d x
theorem F101_parF (N : Nat) : ParF (F101_s N).t := by
  intro x α β k k' r r' h h1
  revert h
  dsimp only [F101_s]
  (repeat' (first | (with_reducible refine par_ite ?_ ?_) | (with_reducible refine par_both ?_ ?_) | split)) <;> intro h <;> first | exact h1 _ h | (cases h; done)
theorem F101_pat (N : Nat) (a : List AV) (b : List (List AV)) (x : (F101_s N).X) (h : (F101_s N).pat a b = some x) : a = (F101_s N).args x ∧ b = (F101_s N).bs x := by
  dsimp only [F101_s] at h
  split at h
  · cases h; exact ⟨rfl, rfl⟩
  · cases h
noncomputable def F101_e (N : Nat) : Ent Tryz.prog where
  f := 101
  F := F101_s N
  ok := fun (x : ByteArray × ByteArray) y h => by
    obtain ⟨s, c⟩ := x
    have h : (if c = dot ∧ s.size < 4294967281 then some ((Lib.splitB dot 0 (Lib.countB s dot) s).map fun s => [AV.v (.string s)]) else none) = some y := h
    split at h
    · rename_i hx
      cases h
      obtain ⟨rfl, hs⟩ := hx
      refine CallOk.texts (T := Tryz.lays146_ren.t 9) ⟨Tryz.f101, Tryz.func101, rfl, rfl⟩ fun M w cargs σ mem hsz hr => ?_
      have h1 : cargs.size = 2 := hsz
      rw [args2 h1 (hr 0 (by omega) (by show 0 < 2; omega)).v_inv (hr 1 (by omega) (by show 1 < 2; omega)).v_inv]
      have hlen : (Lib.splitB dot 0 (Lib.countB s dot) s).length = Lib.countB s dot + 1 := Lib.splitB_all dot (Nat.le_refl 1) 0 _ s rfl
      rw [hlen]
      exact split_dot Tryz.lays146 (by kernel_rfl) s 46 w hs
    · cases h
  hp := F101_pat N
  hsl := fun y => rfl
theorem valid_calls {N : Nat} {a b c d : ByteArray} {y : Bool} (h : F37_d N (a, b, c, d) = some y) (V : World) : Calls Tryz.prog 37 #[.agg #[.string a, .string b, .string c, .string d]] V fun e w' => e = .returned (.bool y) ∧ Below V.heap.size V w' := by
  refine CallOk.calls ((F37_e N).ok (a, b, c, d) y h) V _ rfl (fun i hi h' => ?_)
  have : i < 1 := h'
  obtain rfl : i = 0 := by omega
  exact agg4_rd
theorem parts_calls {N : Nat} (a b c d : ByteArray) (V : World) : Calls Tryz.prog 58 #[.agg #[.string a, .string b, .string c, .string d]] V fun e w' => e = .returned (.agg #[.string a, .string b, .string c, .string d]) ∧ Below V.heap.size V w' := by
  refine CallOk.callsU ((F58_e N).ok (a, b, c, d) (a, b, c, d) rfl) (fun M ρ σ c h => rd_agg4 h) V _ rfl (fun i hi h' => ?_)
  have : i < 1 := h'
  obtain rfl : i = 0 := by omega
  exact agg4_rd
/-! ### seismonet/source.Format -/
noncomputable def F33_s (N : Nat) : FSpec where
  X := ByteArray × ByteArray × ByteArray × ByteArray
  Y := ByteArray × Int
  ash := [[none, none, none, none]]
  bsh := []
  S := ⟨[[none], [none]], [], [], [], []⟩
  bm := false
  pat := fun a b => match a, b with
    | [(AV.agg [(AV.v (.string a0)), (AV.v (.string a1)), (AV.v (.string a2)), (AV.v (.string a3))])], [] => some (a0, a1, a2, a3)
    | _, _ => none
  args := fun x => [(AV.agg [(AV.v (.string x.1)), (AV.v (.string x.2.1)), (AV.v (.string x.2.2.1)), (AV.v (.string x.2.2.2))])]
  bs := fun x => []
  ret := fun y => ⟨(AV.tup [(AV.v (.string y.1)), (AV.v (.int .i64 y.2))]), [], none, [], [], []⟩
  t := fun x α k => match F37_d N x with | some true => (if (joined [x.1, x.2.1, x.2.2.1, x.2.2.2]).size ≤ 140737488355328 then k (joined [x.1, x.2.1, x.2.2.1, x.2.2.2], 0) else none) | some false => k (⟨#[]⟩, 1) | none => none
noncomputable abbrev F33_d (N : Nat) (x : ByteArray × ByteArray × ByteArray × ByteArray) : Option (ByteArray × Int) := (F33_s N).d x
theorem F33_parF (N : Nat) : ParF (F33_s N).t := by
  intro x α β k k' r r' h h1
  revert h
  dsimp only [F33_s]
  (repeat' (first | (with_reducible refine par_ite ?_ ?_) | (with_reducible refine par_both ?_ ?_) | split)) <;> intro h <;> first | exact h1 _ h | (cases h; done)
theorem F33_pat (N : Nat) (a : List AV) (b : List (List AV)) (x : (F33_s N).X) (h : (F33_s N).pat a b = some x) : a = (F33_s N).args x ∧ b = (F33_s N).bs x := by
  dsimp only [F33_s] at h
  split at h
  · cases h; exact ⟨rfl, rfl⟩
  · cases h
noncomputable def F33_e (N : Nat) : Ent Tryz.prog where
  f := 33
  F := F33_s N
  ok := fun (x : ByteArray × ByteArray × ByteArray × ByteArray) y h => by
    obtain ⟨a, b, c, d⟩ := x
    have h : (match F37_d N (a, b, c, d) with | some true => (if (joined [a, b, c, d]).size ≤ 140737488355328 then some (joined [a, b, c, d], (0 : Int)) else none) | some false => some ((⟨#[]⟩ : ByteArray), (1 : Int)) | none => none) = some y := h
    split at h
    · rename_i hv
      split at h
      · rename_i hx
        cases h
        refine CallOk.plainT (v := .tuple #[.string (joined [a, b, c, d]), .int .i64 0]) (fun M ρ σ => rd_pair) ⟨Tryz.f33, Tryz.func33, rfl, rfl⟩ fun M w cargs σ hgl mem hsz hr => ?_
        have h1 : cargs.size = 1 := hsz
        rw [args1 h1 (rd_agg4 (hr 0 (by omega) (by show 0 < 1; omega)))]
        exact format_yes a b c d w (fun V => valid_calls hv V) (fun V => parts_calls (N := N) a b c d V) hx
      · cases h
    · rename_i hv
      cases h
      refine CallOk.plainT (v := .tuple #[.string ⟨#[]⟩, .int .i64 1]) (fun M ρ σ => rd_pair) ⟨Tryz.f33, Tryz.func33, rfl, rfl⟩ fun M w cargs σ hgl mem hsz hr => ?_
      have h1 : cargs.size = 1 := hsz
      rw [args1 h1 (rd_agg4 (hr 0 (by omega) (by show 0 < 1; omega)))]
      exact format_no a b c d w (fun V => valid_calls hv V)
    · cases h
  hp := F33_pat N
  hsl := fun y => rfl
end Go.Proofs.YtdmedeaknnldcaaGreatDoor
