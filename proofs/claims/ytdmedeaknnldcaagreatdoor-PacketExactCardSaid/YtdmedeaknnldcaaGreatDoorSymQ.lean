/- The program's own types; small words for the functions without memory. -/
import Derived.Test.YtdmedeaknnldcaaGreatDoorSymP
import Derived.Test.YtdmedeaknnldcaaGreatDoorProg
import Derived.KernelRfl
namespace Go.Proofs.YtdmedeaknnldcaaGreatDoor
open Go.RowKit
set_option linter.unusedVariables false
set_option linter.unusedSimpArgs false
set_option linter.unnecessarySimpa false
def tabOf (P : Program) : Tab where
  u := P.underlying
  i := fun t => match P.info? t with | some i => some (i.size, i.bytes) | none => none
  z := fun t => match P.info? t with
    | some i => (match i.zero with | some z => if z.cells.toList.all (·.oneCell') then some (z.cells.toList.map .v) else none | none => none)
    | none => none
  q := fun t => !P.stoodInHeld t && !P.eqGuardType P.depth t
  bm := fun _ => false
/-- With slots whose slices lie over variables. -/
def tabB (P : Program) (l : List Nat) : Tab where
  u := (tabOf P).u
  i := (tabOf P).i
  z := (tabOf P).z
  q := (tabOf P).q
  bm := fun d => l.contains d
theorem tabOf_ok (P : Program) : TabOk P (tabOf P) where
  u := fun t d h => h
  q := fun t h => by simpa [tabOf] using h
  i := fun t p h => by
    simp only [tabOf] at h
    split at h
    · rename_i i hi; cases h; exact ⟨i, hi, rfl, rfl⟩
    · cases h
  z := fun t z h => by
    simp only [tabOf] at h
    split at h
    · rename_i i hi
      split at h
      · rename_i v hv
        split at h
        · rename_i hall
          cases h
          exact ⟨i, v, hi, hv, fun M ρ σ => ⟨by simp, fun j hj => List.all_eq_true.1 hall _ (by simp), fun j hj hj' => by simpa using Rd.v⟩⟩
        · cases h
      · cases h
    · cases h
theorem tabB_ok (P : Program) (l : List Nat) : TabOk P (tabB P l) where
  u := (tabOf_ok P).u
  i := (tabOf_ok P).i
  z := (tabOf_ok P).z
  q := (tabOf_ok P).q
theorem mixed : Tryz.prog.follows .mixedOrders = true := by kernel_rfl
def kp0 : Keep := ⟨[], [], [], [], [], [], [], [], false⟩
def noKeep : Nat → Keep × Keep := fun _ => (kp0, kp0)
abbrev I (n : Int) : AV := .v (.int .i64 n)
abbrev Bo (b : Bool) : AV := .v (.bool b)
def noLoop : LoopK := ⟨fun _ _ => none, fun _ _ _ _ => none, fun _ _ _ _ _ h => by cases h⟩
/-- A function without memory: which arguments it reads, what it hands back, its text without memory. -/
structure FSpec where
  X : Type
  Y : Type
  ash : List (List (Option Nat))
  bsh : List (List (Option Nat))
  S : Shape
  bm : Bool
  pat : List AV → List (List AV) → Option X
  args : X → List AV
  bs : X → List (List AV)
  ret : Y → Ret
  t : X → (α : Type) → (Y → Option α) → Option α
def FSpec.d (F : FSpec) (x : F.X) : Option F.Y := F.t x F.Y some
/-- Functions that are known. -/
structure Ent (P : Program) where
  f : FuncId
  F : FSpec
  ok : ∀ x y, F.d x = some y → CallOk P f (F.args x) (F.bs x) (F.ret y)
  hp : ∀ a b x, F.pat a b = some x → a = F.args x ∧ b = F.bs x
  hsl : ∀ y, (F.ret y).sl = F.S.sl
/-- A nil slice among the arguments: a list, with a token (2000000 + n) or without. -/
def coeT (id : Nat) : Option Nat → AV → AV
  | some n, .v (.slice none 0 0) => if 2000000 ≤ n then .list (n - 2000000) [] (some id) else .list n [] none
  | _, x => x
def zipT (id : Nat → Nat) : Nat → List (Option Nat) → List AV → List AV
  | j, k :: ks, c :: cs => coeT (id j) k c :: zipT id (j + 1) ks cs
  | _, _, cs => cs
def coeA (id : Nat) (ks : List (Option Nat)) : AV → AV
  | .agg cs => .agg (zipC ks cs)
  | v => coeT id (ks.headD none) v
def zipA : Nat → List (List (Option Nat)) → List AV → List AV
  | i, k :: ks, c :: cs => coeA (tI i) k c :: zipA (i + 1) ks cs
  | _, _, cs => cs
def prepA (n : Nat) (use : List Nat) (ash : List (List (Option Nat))) (args : List AV) : List AV := zipA 0 ash (args.map (stripV n use))
def prepB (n : Nat) (use sl : List Nat) : Nat → List (List (Option Nat)) → List (List AV) → List (List AV)
  | _, _, [] => []
  | k, rows, cs :: r => (match sl.contains k with | true => cs | false => zipT (fun j => tC k j 0) 0 (rows.headD []) (cs.map (mp0 (inB n) (useG use)))) :: prepB n use sl (k + 1) rows.tail r
theorem Rd.coeT {M : Mem} {ρ : Rho} {σ : Sig} {i : Nat} {k : Option Nat} {c : Value} {v : AV} (h : Rd M ρ σ c v) : Rd M ρ σ c (coeT i k v) := by
  unfold Go.Proofs.YtdmedeaknnldcaaGreatDoor.coeT
  split
  · rw [h.v_inv]
    split
    · exact .nil
    · exact .nil
  · exact h
theorem zipT_get (id : Nat → Nat) : ∀ (ks : List (Option Nat)) (cs : List AV) (j0 : Nat), (zipT id j0 ks cs).length = cs.length ∧ ∀ i (h : i < (zipT id j0 ks cs).length) (h' : i < cs.length), (zipT id j0 ks cs)[i] = cs[i] ∨ ∃ j k, (zipT id j0 ks cs)[i] = coeT j k cs[i]
  | [], cs, j0 => ⟨by cases cs <;> rfl, fun i h h' => .inl (by cases cs <;> rfl)⟩
  | k :: ks, [], j0 => ⟨rfl, fun i h => by cases h⟩
  | k :: ks, c :: cs, j0 => by
    obtain ⟨h1, h2⟩ := zipT_get id ks cs (j0 + 1)
    refine ⟨by simp [zipT, h1], fun i h h' => ?_⟩
    cases i with
    | zero => exact .inr ⟨_, k, rfl⟩
    | succ i => exact h2 i (by simpa [zipT] using h) (by simpa using h')
theorem Rd.coeA {M : Mem} {ρ : Rho} {σ : Sig} {i : Nat} {ks : List (Option Nat)} {c : Value} {v : AV} (h : Rd M ρ σ c v) : Rd M ρ σ c (coeA i ks v) := by
  unfold Go.Proofs.YtdmedeaknnldcaaGreatDoor.coeA
  split
  · exact Rd.coeR (ks := ks) h
  · exact h.coeT
theorem zipA_get : ∀ (ks : List (List (Option Nat))) (cs : List AV) (i0 : Nat), (zipA i0 ks cs).length = cs.length ∧ ∀ i (h : i < (zipA i0 ks cs).length) (h' : i < cs.length), (zipA i0 ks cs)[i] = cs[i] ∨ ∃ j k, (zipA i0 ks cs)[i] = coeA j k cs[i]
  | [], cs, i0 => ⟨by cases cs <;> rfl, fun i h h' => .inl (by cases cs <;> rfl)⟩
  | k :: ks, [], i0 => ⟨rfl, fun i h => by cases h⟩
  | k :: ks, c :: cs, i0 => by
    obtain ⟨h1, h2⟩ := zipA_get ks cs (i0 + 1)
    refine ⟨by simp [zipA, h1], fun i h h' => ?_⟩
    cases i with
    | zero => exact .inr ⟨_, k, rfl⟩
    | succ i => exact h2 i (by simpa [zipA] using h) (by simpa using h')
theorem prepB_get (n : Nat) (use sl : List Nat) : ∀ (bs : List (List AV)) (k0 : Nat) (rows : List (List (Option Nat))), (prepB n use sl k0 rows bs).length = bs.length ∧ ∀ k (h : k < (prepB n use sl k0 rows bs).length) (h' : k < bs.length), ∃ row, (prepB n use sl k0 rows bs)[k] = (match sl.contains (k0 + k) with | true => bs[k] | false => zipT (fun j => tC (k0 + k) j 0) 0 row (bs[k].map (mp0 (inB n) (useG use))))
  | [], k0, rows => ⟨rfl, fun k h => by cases h⟩
  | cs :: r, k0, rows => by
    obtain ⟨h1, h2⟩ := prepB_get n use sl r (k0 + 1) rows.tail
    refine ⟨by simp [prepB, h1], fun k h h' => ?_⟩
    cases k with
    | zero => exact ⟨_, rfl⟩
    | succ k =>
      obtain ⟨row, e⟩ := h2 k (by simpa [prepB] using h) (by simpa using h')
      rw [show k0 + 1 + k = k0 + (k + 1) by omega] at e
      exact ⟨row, e⟩
theorem Hold.zipT {M : Mem} {ρ : Rho} {σ : Sig} {w : World} {g : Nat} {cs : List AV} (h : Hold M ρ σ w g cs) (id : Nat → Nat) (ks : List (Option Nat)) : Hold M ρ σ w g (zipT id 0 ks cs) := by
  obtain ⟨ccs, t, h1, h2, h3, h4⟩ := h
  obtain ⟨z1, z2⟩ := zipT_get id ks cs 0
  refine ⟨ccs, t, h1, by rw [z1]; exact h2, fun i x y => h3 i x (by omega), fun i x y => ?_⟩
  have y' : i < cs.length := by omega
  rcases z2 i y y' with e | ⟨j, k, e⟩
  · rw [e]; exact h4 i x y'
  · rw [e]; exact (h4 i x y').coeT
/-- What is asked of arguments that say more. -/
theorem CallOk.prep {P : Program} {f : FuncId} {args : List AV} {bs : List (List AV)} {r : Ret} {use sl : List Nat} (ka kb : List (List (Option Nat))) (hsl : r.sl = sl) (h : CallOk P f (prepA bs.length use ka args) (prepB bs.length use sl 0 kb bs) r) : CallOk P f args bs r := by
  obtain ⟨h1, h2⟩ := h
  obtain ⟨a1, a2⟩ := zipA_get ka (args.map (stripV bs.length use)) 0
  obtain ⟨b1, b2⟩ := prepB_get bs.length use sl bs 0 kb
  have hla : (prepA bs.length use ka args).length = args.length := by unfold prepA; rw [a1]; simp
  refine ⟨h1, fun M w cargs gs σ hgl mem hlt hn hl hsz hr hbx hda hT => ?_⟩
  have R : Ren (inB bs.length) (useG use) (gsR gs) σ (gsR gs) σ := by
    refine ⟨fun b b' x hb hx => ?_, fun t t' sp ht hsp => ?_, fun b b' sp hb hsp => ?_⟩
    · unfold inB at hb
      split at hb
      · cases hb; exact hx
      · cases hb
    · unfold useG at ht
      split at ht
      · cases ht; exact hsp
      · cases ht
    · unfold inB at hb
      split at hb
      · cases hb; exact hsp
      · cases hb
  refine h2 M w cargs gs σ hgl mem hlt hn (by rw [b1]; exact hl) (by rw [hla]; exact hsz) (fun i x y => ?_) (fun k x y => ?_) (fun k hk x y => ?_) hT
  · have y' : i < args.length := by omega
    have y2 : i < (args.map (stripV bs.length use)).length := by simpa using y'
    have base : Rd M (gsR gs) σ cargs[i] (args.map (stripV bs.length use))[i] := by
      rw [List.getElem_map]; exact (hr i x y').mp2 R
    rcases a2 i y y2 with e | ⟨j, k, e⟩
    · show Rd M (gsR gs) σ cargs[i] (zipA 0 ka (args.map (stripV bs.length use)))[i]
      rw [e]; exact base
    · show Rd M (gsR gs) σ cargs[i] (zipA 0 ka (args.map (stripV bs.length use)))[i]
      rw [e]; exact base.coeA
  · have y' : k < bs.length := by omega
    obtain ⟨row, e⟩ := b2 k y y'
    rw [e]
    rcases hbx k x y' with ⟨q1, q2⟩ | ⟨g, q1, q2, q3⟩
    · refine .inl ⟨?_, q2⟩
      rw [q1]
      split
      · rfl
      · cases row with
        | nil => rfl
        | cons _ _ => rfl
    · refine .inr ⟨g, q1, ?_, q3⟩
      split
      · exact q2
      · exact (q2.back R false).zipT _ row
  · have y' : k < bs.length := by omega
    obtain ⟨row, e⟩ := b2 k y y'
    rw [hsl] at hk
    rw [e, Nat.zero_add, List.contains_iff_mem.2 hk]
    exact hda k (by rw [hsl]; exact hk) x y'
def gv {P : Program} : List (Ent P) → FuncId → Bool → List AV → List (List AV) → Option Ret
  | [], _, _, _, _ => none
  | e :: r, f, m, args, bs => if e.f = f ∧ e.F.bm = m then (match e.F.pat (prepA bs.length e.F.S.use e.F.ash args) (prepB bs.length e.F.S.use e.F.S.sl 0 e.F.bsh bs) with | some x => (match e.F.d x with | some y => some (e.F.ret y) | none => none) | none => gv r f m args bs) else gv r f m args bs
def gK {P : Program} : List (Ent P) → FuncId → Bool → List AV → List (List AV) → (α : Type) → (Ret → Option α) → Option α
  | [], _, _, _, _, _, _ => none
  | e :: r, f, m, args, bs, α, k => if e.f = f ∧ e.F.bm = m then (match e.F.pat (prepA bs.length e.F.S.use e.F.ash args) (prepB bs.length e.F.S.use e.F.S.sl 0 e.F.bsh bs) with | some x => (match e.F.d x with | some y => k (e.F.ret y) | none => none) | none => gK r f m args bs α k) else gK r f m args bs α k
theorem gK_eq {P : Program} : ∀ (es : List (Ent P)) (f : FuncId) (m : Bool) (args : List AV) (bs : List (List AV)) (α : Type) (k : Ret → Option α) (x : α), gK es f m args bs α k = some x → ∃ r, gv es f m args bs = some r ∧ k r = some x
  | [], _, _, _, _, _, _, _, h => by cases h
  | e :: r, f, m, args, bs, α, k, x, h => by
    unfold gK at h
    unfold gv
    split at h
    · rename_i hf
      rw [if_pos hf]
      cases hd : e.F.pat (prepA bs.length e.F.S.use e.F.ash args) (prepB bs.length e.F.S.use e.F.S.sl 0 e.F.bsh bs) with
      | some d =>
        rw [hd] at h
        simp only at h ⊢
        cases hy : e.F.d d with
        | some y => rw [hy] at h; exact ⟨e.F.ret y, rfl, h⟩
        | none => rw [hy] at h; cases h
      | none =>
        rw [hd] at h
        exact gK_eq r f m args bs α k x h
    · rename_i hf
      rw [if_neg hf]
      exact gK_eq r f m args bs α k x h
def gam {P : Program} (es : List (Ent P)) : GamK := ⟨gv es, gK es, gK_eq es⟩
theorem gam_ok {P : Program} : ∀ (es : List (Ent P)), GOk P (gam es).v
  | [] => fun f m args bs r h => by cases h
  | e :: es => fun f m args bs r h => by
    change gv (e :: es) f m args bs = some r at h
    unfold gv at h
    split at h
    · rename_i hf
      obtain ⟨hf, -⟩ := hf
      subst hf
      split at h
      · rename_i x hx
        obtain ⟨h1, h2⟩ := e.hp _ _ _ hx
        split at h
        · rename_i y hy; cases h; exact .prep e.F.ash e.F.bsh (e.hsl y) (by rw [h1, h2]; exact e.ok x y hy)
        · cases h
      · exact gam_ok es _ m args bs r h
    · exact gam_ok es f m args bs r h
/-- A loop without memory: which states it reads, where it leads, one round of it. -/
structure LSpec where
  X : Type
  Y : Type
  p : AS → Option X
  st : X → AS
  out : Y → Out
  sp : Y → (α : Type) → (Out → Option α) → Option α
  spe : ∀ y α k, sp y α k = k (out y)
  b : X → (α : Type) → (X → Option α) → (Y → Option α) → Option α
def LSpec.L (l : LSpec) : Nat → l.X → Option l.Y
  | 0, _ => none
  | N + 1, x => l.b x l.Y (l.L N) some
def lv (N : Nat) (ls : List (Nat × LSpec)) (n : Nat) (s : AS) : Option Out := match ls.lookup n with
  | some l => (match l.p s with | some x => (match l.L N x with | some y => some (l.out y) | none => none) | none => none)
  | none => none
def lK (N : Nat) (ls : List (Nat × LSpec)) (n : Nat) (s : AS) (α : Type) (k : Out → Option α) : Option α := match ls.lookup n with
  | some l => (match l.p s with | some x => (match l.L N x with | some y => l.sp y α k | none => none) | none => none)
  | none => none
def lam (N : Nat) (ls : List (Nat × LSpec)) : LoopK := ⟨lv N ls, lK N ls, fun n s α k x h => by
  unfold lK at h
  unfold lv
  split at h
  · rename_i l hl
    split at h
    · rename_i x hx
      split at h
      · rename_i y hy
        rw [l.spe] at h
        exact ⟨l.out y, by simp only [hx, hy], h⟩
      · cases h
    · cases h
  · cases h⟩
def Par {X Y : Type} (b : X → (α : Type) → (X → Option α) → (Y → Option α) → Option α) : Prop := ∀ (x : X) (α β : Type) (kn : X → Option α) (ke : Y → Option α) (kn' : X → Option β) (ke' : Y → Option β) (r : α) (r' : β), b x α kn ke = some r → (∀ x, kn x = some r → kn' x = some r') → (∀ y, ke y = some r → ke' y = some r') → b x β kn' ke' = some r'
def ParF {X Y : Type} (t : X → (α : Type) → (Y → Option α) → Option α) : Prop := ∀ (x : X) (α β : Type) (k : Y → Option α) (k' : Y → Option β) (r : α) (r' : β), t x α k = some r → (∀ y, k y = some r → k' y = some r') → t x β k' = some r'
theorem par_both {α β : Type} {a b : Option α} {a' b' : Option β} {r : α} {r' : β} (h1 : a = some r → a' = some r') (h2 : b = some r → b' = some r') : both a b = some r → both a' b' = some r' := by
  intro h
  obtain ⟨q1, q2⟩ := both_spec h
  rw [h1 q1, h2 q2]; exact both_self _
theorem par_ite {c : Prop} [Decidable c] {α β : Type} {a b : Option α} {a' b' : Option β} {r : α} {r' : β} (h1 : a = some r → a' = some r') (h2 : b = some r → b' = some r') : ite c a b = some r → ite c a' b' = some r' := by
  by_cases h : c
  · rw [if_pos h, if_pos h]; exact h1
  · rw [if_neg h, if_neg h]; exact h2
theorem LSpec.mono (l : LSpec) (hpar : Par l.b) : ∀ (N : Nat) (x : l.X) (y : l.Y), l.L N x = some y → l.L (N + 1) x = some y
  | 0, x, y, h => by cases h
  | N + 1, x, y, h => hpar x l.Y l.Y _ _ _ _ y y h (fun x' hx => LSpec.mono l hpar N x' y hx) (fun y' hy => hy)
theorem LSpec.up (l : LSpec) (hpar : Par l.b) {x : l.X} {y : l.Y} {N : Nat} (h : l.L N x = some y) : ∀ {M : Nat}, N ≤ M → l.L M x = some y := by
  have : ∀ k, l.L (N + k) x = some y := by
    intro k
    induction k with
    | zero => exact h
    | succ k ih => exact l.mono hpar _ x y ih
  intro M hM
  obtain ⟨k, rfl⟩ := Nat.exists_eq_add_of_le hM
  exact this k
/-- A loop's three obligations. -/
theorem loop_ok {P : Program} {T : Tab} {Γ : GamK} (hT : TabOk P T) (hG : GOk P Γ.v) (hm : P.follows .mixedOrders = true) (An : Nat → Keep × Keep) (N0 : Nat) (ls : List (Nat × LSpec)) (n : Nat) (c node : Code) (hnode : node = .loop c) (hL : ∀ p ∈ actOf An c (n + 1), ∀ s o, s = canon (An p.1).1 s → (lam N0 ls).v p.1 s = some o → LoopSem P p.2 s o)
    (l : LSpec) (hl : ls.lookup n = some l) (hp : ∀ s x, s = canon (An n).1 s → l.p s = some x → s = l.st x) (pm : ∀ x, l.p (l.st x) = some x)
    (hb : ∀ (x : l.X) (α : Type) (kn : AS → Option α) (ke : Out → Option α), around T Γ An (lam N0 ls) n c (l.st x) kn ke = l.b x α (fun x' => kn (l.st x')) (fun y => ke (l.out y))) (hpar : Par l.b) :
    ∀ s o, s = canon (An n).1 s → (lam N0 ls).v n s = some o → LoopSem P node s o := by
  subst hnode
  let V : Nat → AS → Option Out := fun N s => match l.p s with | some x => (match l.L N x with | some y => some (l.out y) | none => none) | none => none
  have key := loop_rule hT hG hm An (lam N0 ls) n c (fun p hp hact => hL p (List.mem_filter.2 ⟨hp, hact⟩)) V (fun N s o hc hv => by
    simp only [V] at hv
    split at hv
    · rename_i x hx
      split at hv
      · rename_i y hy
        cases hv
        cases N with
        | zero => cases hy
        | succ N =>
          refine ⟨N, Nat.lt_succ_self _, ?_⟩
          rw [hp s x hc hx, hb]
          refine hpar x l.Y Out _ _ _ _ y (l.out y) hy (fun x' hx' => ?_) (fun y' hy' => by cases hy'; rfl)
          simp only [V, pm, hx']
      · cases hv
    · cases hv)
  intro s o hc hv
  change lv N0 ls n s = some o at hv
  unfold lv at hv
  rw [hl] at hv
  simp only at hv
  split at hv
  · rename_i x hx
    split at hv
    · rename_i y hy
      cases hv
      exact key N0 s _ hc (by simp only [V, hx, hy])
    · cases hv
  · cases hv
/-- A part's obligations. -/
theorem piece_ok {P : Program} {T : Tab} {Γ : GamK} (hT : TabOk P T) (hG : GOk P Γ.v) (hm : P.follows .mixedOrders = true) (An : Nat → Keep × Keep) (N0 : Nat) (ls : List (Nat × LSpec)) (n : Nat) (c : Code) (hL : ∀ p ∈ actOf (uncut An n) c n, ∀ s o, s = canon (An p.1).1 s → (lam N0 ls).v p.1 s = some o → LoopSem P p.2 s o)
    (l : LSpec) (hl : ls.lookup n = some l) (hp : ∀ s x, s = canon (An n).1 s → l.p s = some x → s = l.st x)
    (hb : ∀ (x : l.X) (α : Type) (kn : l.X → Option α) (ke : Out → Option α), pieceRun T Γ An (lam N0 ls) n c (l.st x) ke = l.b x α kn (fun y => ke (l.out y))) (hpar : Par l.b) :
    ∀ s o, s = canon (An n).1 s → (lam N0 ls).v n s = some o → LoopSem P c s o := by
  intro s o hc hv
  change lv N0 ls n s = some o at hv
  unfold lv at hv
  rw [hl] at hv
  simp only at hv
  split at hv
  · rename_i x hx
    split at hv
    · rename_i y hy
      cases hv
      cases N0 with
      | zero => cases hy
      | succ N =>
        refine piece_rule hT hG hm An (lam (N + 1) ls) n c (fun p hp' hact s o hs => hL p (List.mem_filter.2 ⟨hp', hact⟩) s o ?_) ?_
        · unfold uncut at hs
          split at hs
          · rename_i e; rw [e]; exact hs
          · exact hs
        · rw [hp s x hc hx, hb x Out (fun _ => none)]
          have hy' : l.b x l.Y (l.L N) some = some y := hy
          have h2 : l.b x Out (fun _ => none) (fun y => some (l.out y)) = l.b x Out (fun x' => (l.L N x').map l.out) (fun y => some (l.out y)) := by
            rw [← hb x Out (fun _ => none), ← hb x Out (fun x' => (l.L N x').map l.out)]
          rw [h2]
          exact hpar x l.Y Out _ _ _ _ y (l.out y) hy' (fun x' hx' => by rw [hx']; rfl) (fun y' hy' => by cases hy'; rfl)
    · cases hv
  · cases hv
/-- A function's obligations. -/
def entOf {P : Program} {T : Tab} {Γ : GamK} (hT : TabOk P T) (hG : GOk P Γ.v) (hm : P.follows .mixedOrders = true) (f : FuncId) (fn : Func) (hf : P.funcs[f]? = some fn) (hname : (fn.name == "runtime.NumGoroutine") = false) (An : Nat → Keep × Keep) (Λ : LoopK)
    (hL : ∀ p ∈ actOf An (fn.body.getD .skip) 0, ∀ s o, s = canon (An p.1).1 s → Λ.v p.1 s = some o → LoopSem P p.2 s o) (F : FSpec) (hru : ∀ y, (F.ret y).use = F.S.use ∧ (F.ret y).sl = F.S.sl)
    (hb : ∀ x, acall T Γ An Λ fn F.S (F.args x) (F.bs x) = F.t x Ret (fun y => some (F.ret y))) (hp : ∀ a b x, F.pat a b = some x → a = F.args x ∧ b = F.bs x) (hpar : ParF F.t) : Ent P where
  f := f
  F := F
  ok := fun x y h => acall_ok hT hG hm hf hname An Λ (fun c hc p hp' hact => hL p (by rw [hc]; exact List.mem_filter.2 ⟨hp', hact⟩)) (hru y) (by rw [hb]; exact hpar x F.Y Ret _ _ y (F.ret y) h (fun y' hy' => by cases hy'; rfl))
  hp := hp
  hsl := fun y => (hru y).2
/-- Slots that are known. -/
def AtAll (s : AS) : List (Nat × AV) → Prop
  | [] => True
  | p :: r => s.at p.1 = p.2 ∧ AtAll s r
def BxAll (s : AS) : List (Nat × List AV) → Prop
  | [] => True
  | p :: r => s.bx p.1 = some p.2 ∧ BxAll s r
/-! ### Words of the shallow forms -/
/-- Bits. -/
def bAnd (k : IntKind) (x y : Int) : Int := k.wrap ((BitVec.ofInt k.bits x &&& BitVec.ofInt k.bits y).toNat : Int)
def bOr (k : IntKind) (x y : Int) : Int := k.wrap ((BitVec.ofInt k.bits x ||| BitVec.ofInt k.bits y).toNat : Int)
def bXor (k : IntKind) (x y : Int) : Int := k.wrap ((BitVec.ofInt k.bits x ^^^ BitVec.ofInt k.bits y).toNat : Int)
def bNot (k : IntKind) (x y : Int) : Int := k.wrap ((BitVec.ofInt k.bits x &&& ~~~BitVec.ofInt k.bits y).toNat : Int)
abbrev i64 (n : Int) : Int := IntKind.i64.wrap n
/-- A state of which some slots and variables are known. -/
def mkS (len : Nat) (l : List (Nat × AV)) (bx : List (Nat × List AV)) (tk : List (Nat × Bool)) (nin : Nat) : AS where
  env := (List.range len).map fun t => (l.lookup t).getD .any
  box := bx.map fun p => (p.1, some p.2)
  tok := tk
  nin := nin
theorem AtAll.lookup {s : AS} : ∀ {l : List (Nat × AV)} {t : Nat} {v : AV}, AtAll s l → l.lookup t = some v → s.at t = v
  | [], t, v, _, h => by cases h
  | (t0, v0) :: r, t, v, ha, h => by
    rw [List.lookup_cons] at h
    by_cases e : t = t0
    · subst e; simp at h; subst h; exact ha.1
    · have e2 : (t == t0) = false := by simp [e]
      rw [e2] at h
      exact AtAll.lookup ha.2 h
theorem BxAll.map {s : AS} : ∀ {l : List (Nat × List AV)}, BxAll s l → (l.map (·.1)).map (fun b => (b, s.bx b)) = l.map fun p => (p.1, some p.2)
  | [], _ => rfl
  | p :: r, h => by
    simp only [List.map_cons, h.1, BxAll.map h.2]
theorem canon_mk {kp : Keep} {s : AS} {len nin : Nat} {l : List (Nat × AV)} {bx : List (Nat × List AV)} {tk : List (Nat × Bool)} (h : s = canon kp s) (hlen : s.env.length = len) (hn : s.nin = nin) (hk : kp.accs.map (·.1) ++ (kp.vaccs.map (·.1) ++ (kp.lists.map (·.1) ++ kp.plain)) = l.map (·.1)) (hbk : kp.names = bx.map (·.1)) (ht : kp.toks = tk) (he : AtAll s l) (hb : BxAll s bx) : s = mkS len l bx tk nin := by
  rw [h]
  unfold canon mkS
  rw [hlen, hn, hbk, ht, hb.map]
  congr 1
  refine List.map_congr_left fun t _ => ?_
  have e1 : ((kp.accs.map (·.1)).contains t || ((kp.vaccs.map (·.1)).contains t || ((kp.lists.map (·.1)).contains t || kp.plain.contains t))) = (l.lookup t).isSome := by
    rw [lookup_contains, ← hk, Bool.eq_iff_iff]
    simp [List.mem_append]
  rw [e1]
  cases hq : l.lookup t with
  | none => rfl
  | some v => simp only [Option.isSome_some, if_true, Option.getD_some]; exact he.lookup hq
def nthLoop (n : Nat) (c : Code) : Code := ((loopsOf c 0).lookup n).getD .skip
def bodyOf : Code → Code
  | .loop c => c
  | c => c
def anL (l : List (Nat × Keep × Keep)) (n : Nat) : Keep × Keep := match l.lookup n with
  | some k => k
  | none => (kp0, kp0)
/-- With what is frozen ahead of which region. -/
def anF (l : List (Nat × Keep × Keep)) (fz : List (Nat × List Nat × List ((Nat × Nat) × Nat))) (n : Nat) : Keep × Keep := match fz.lookup n with
  | some ts => (⟨ts.1, [], [], [], [], [], ts.2, [], false⟩, kp0)
  | none => anL l n
end Go.Proofs.YtdmedeaknnldcaaGreatDoor
